/-
  A book's walk: what a function value leaves that goes through the events that hold, in order.
-/
import Derived.Test.YtidiapgdgoeplaaBookMem
import Derived.Test.YtidiapgdgoeplaaSortDots
namespace Go.Proofs.Ytidiapgdgoeplaa
open Go.Shelf Go.RowKit Go.Lib Go.Sort
set_option linter.unusedVariables false
/-- what walk looks at -/
def CoreAt (W : World) (bb ms mh : Nat) (t : Int) (Eh : List (Dot × Value)) : Prop := W.heap[bb]? = some (.cells #[.map (some ms), .map (some mh), .int .i64 t] 59) ∧ DotMapAt W mh Eh
/-- the dots met so far, and those still to come -/
structure Coll (Eh todo : List (Dot × Value)) (ds : List Dot) : Prop where
  nd : ds.Nodup
  mem : ∀ d, d ∈ Eh.map (·.1) ↔ d ∈ ds ∨ d ∈ todo.map (·.1)
  apart : ∀ d ∈ ds, d ∉ todo.map (·.1)
theorem Coll.start (Eh : List (Dot × Value)) : Coll Eh Eh [] := ⟨List.Pairwise.nil, fun d => by simp, fun d h => nomatch h⟩
theorem Coll.step {Eh todo : List (Dot × Value)} {ds : List Dot} (h : Coll Eh todo ds) {d : Dot} {v : Value} (hd : (d, v) ∈ todo) : Coll Eh (delE todo d) (ds ++ [d]) := by
  have hm : ∀ x, x ∈ (delE todo d).map (·.1) ↔ x ∈ todo.map (·.1) ∧ x ≠ d := fun x => by
    constructor
    · intro hx
      obtain ⟨⟨a, u⟩, hp, rfl⟩ := List.mem_map.1 hx
      obtain ⟨h1, h2⟩ := mem_delE.1 hp
      exact ⟨List.mem_map_of_mem (f := (·.1)) h1, h2⟩
    · rintro ⟨hx, hne⟩
      obtain ⟨⟨a, u⟩, hp, rfl⟩ := List.mem_map.1 hx
      exact List.mem_map_of_mem (f := (·.1)) (mem_delE.2 ⟨hp, hne⟩)
  have hdt : d ∈ todo.map (·.1) := List.mem_map_of_mem (f := (·.1)) hd
  refine ⟨List.nodup_append.2 ⟨h.nd, List.nodup_cons.2 ⟨List.not_mem_nil, List.Pairwise.nil⟩, fun a ha b hb => ?_⟩, fun x => ?_, fun x hx => ?_⟩
  · obtain rfl : b = d := by simpa using hb
    exact fun e => h.apart a ha (e ▸ hdt)
  · rw [h.mem x, hm x, List.mem_append, List.mem_singleton]
    by_cases e : x = d
    · subst e; simp [hdt]
    · simp [e]
  · rw [hm x]
    rintro ⟨h1, h2⟩
    rcases List.mem_append.1 hx with h3 | h3
    · exact h.apart x h3 h1
    · exact h2 (by simpa using h3)
set_option maxHeartbeats 8000000 in
theorem bookWalk_any (K : Nat) (pre free : Array Value) (eg : ∀ args w, (callFunc K args).run Try.prog w = .ok (.enter K args) w) (bb ms mh : Nat) (t : Int) (Eh : List (Dot × Value)) (hs : List PEv) (hby : ByDot (hs.map (·.2))) (hmay : ∀ p ∈ hs, May p.2.dot)
    (h3 : ∀ d v, (d, v) ∈ Eh ↔ ∃ p, p ∈ hs ∧ d = p.2.dot ∧ v = evVal p) (Inv : Nat → Obj → Nat → World → Prop) (Q : World → Prop) (w : World)
    (hI : ∀ rb ob i W, Inv rb ob i W → CoreAt W bb ms mh t Eh ∧ W.heap[rb]? = some ob) (hmono : ∀ rb ob i W W', Inv rb ob i W → Below W.heap.size W W' → Inv rb ob i W')
    (hstep : ∀ rb ob i (hi : i < hs.length) W, Inv rb ob i W → Calls Try.prog K (pre.push (evVal hs[i]) ++ free) W fun e w' => ∃ c, e = .returned (.bool c) ∧ (c = true → Inv rb ob (i + 1) w') ∧ (c = false → Q w')) (hQ : ∀ rb ob W, Inv rb ob hs.length W → Q W)
    (hcore : CoreAt w bb ms mh t Eh) (h0 : ∀ rb ob W, w.heap.size ≤ rb → W.heap[rb]? = some ob → Below w.heap.size w W → Inv rb ob 0 W) :
    Calls Try.prog 27 #[.pointer (some ⟨bb, 0, none⟩), .func (.func K) pre free] w fun e w' => e = .returned (.tuple #[]) ∧ Q w' := by
  obtain ⟨hob, hmp⟩ := hcore
  obtain ⟨w1, hrun1, hrg1, hg1, hs1⟩ := hmp.range Try.underlying57
  have c1 : w.cell? ⟨bb, 1, none⟩ = some (.map (some mh)) := cell_of_row _ bb 1 _ _ _ hob
  have HRG1 := Lib.hid hrg1
  have HG1 := Lib.hid hg1
  go_enter Try.func27, Try.ntmps27
  go_wp2_with fail
  have HH0 := Lib.hid h0
  have HHM := Lib.hid hmono
  have HHI := Lib.hid hI
  have HSTEP := Lib.hid hstep
  have HQQ := Lib.hid hQ
  have HMY := Lib.hid hmay
  have HBY := Lib.hid hby
  have H3 := Lib.hid h3
  have hmm := hmp.lt
  have hlen := entries_len hmp fun p hp => by obtain ⟨q, hq, h1, _⟩ := (h3 p.1 p.2).1 hp; rw [h1]; exact hmay q hq
  have hb01 : Below w.heap.size w w1 := ⟨hg1.os, hg1.tape, hg1.output, hg1.size, fun i hi => hg1.block i hi (by simp)⟩
  have HB01 := Lib.hid hb01
  clear h0 hmono hI hstep hQ hmay hby h3 hrun1 hrg1 hg1 HG1 hb01 c1 hob hmp
  go_loopg [4] Eh.length (fun gk s4 wr => ∃ (todo : List (Dot × Value)) (ds : List Dot) (oq : Option Addr) (cq : Nat), s4 = .slice oq ds.length cq ∧ todo.length ≤ gk ∧ todo.length + ds.length ≤ 768 ∧ Hid (DotRange wr mh w.heap.size Eh todo) ∧ Hid (Owns Dot.cells 2 (w.heap.size + 1) 28 wr (.slice oq ds.length cq) ds) ∧ Hid (Below w.heap.size w wr) ∧ w.heap.size + 1 ≤ wr.heap.size ∧ Hid (Coll Eh todo ds))
  case atStart => exact ⟨Eh, [], none, 0, rfl, Nat.le_refl _, by simpa using hlen, HRG1.out, Owns.nil _ _ _ _ _, HB01.out, by omega, Coll.start Eh⟩
  case round =>
    obtain ⟨todo, ds, oq, cq, rfl, hg, hle, HR, HO, HB, hszr, HC⟩ := hrel
    rcases HR.out.next 0 with ⟨htd, hrun⟩ | ⟨d, v, w2, hmem, hrun, hrg2, hlen2, hg2, hs2, hen⟩
    · subst htd
      have hcoll := HC.out
      have hrlt := HR.out.lt
      clear HR HC HRG1 HB01
      go_wp2_with fail
      have hdm : ∀ d ∈ ds, ∃ q ∈ hs, d = q.2.dot := fun d hd => by
        obtain ⟨⟨a, u⟩, hp, rfl⟩ := List.mem_map.1 ((hcoll.mem d).2 (.inl hd))
        obtain ⟨q, hq, h1, _⟩ := (H3.out a u).1 hp
        exact ⟨q, hq, h1⟩
      refine (sortDots_any (w.heap.size + 1) (.slice oq ds.length cq) ds wr HO.out (fun d hd => by obtain ⟨q, hq, rfl⟩ := hdm d hd; exact HMY.out q hq) hcoll.nd (by omega)).mono ?_
      rintro e w3 ⟨rfl, l', hll, hmem, hpw, hown3, hg3⟩
      have hl' : l' = hs.map fun p => p.2.dot := by
        refine before_eq hpw (by have := HBY.out; unfold ByDot at this; rw [List.pairwise_map] at this ⊢; exact this) fun x => ?_
        rw [hmem, List.mem_map]
        constructor
        · intro hx
          obtain ⟨q, hq, rfl⟩ := hdm x hx
          exact ⟨q, hq, rfl⟩
        · rintro ⟨q, hq, rfl⟩
          exact ((hcoll.mem _).1 (List.mem_map_of_mem (f := (·.1)) ((H3.out q.2.dot (evVal q)).2 ⟨q, hq, rfl, rfl⟩))).resolve_right (fun h => nomatch h)
      have hlen2 : ds.length = hs.length := by rw [← hll, hl', List.length_map]
      have hge : ∀ k, (Value.slice oq ds.length cq).ownBlock = some k → w.heap.size + 1 ≤ k := fun k hk => (hown3.lt k hk).1
      have hb3 : Below w.heap.size w w3 := HB.out.grown hg3 HB.out.size (fun k hk => by have := hge k hk; omega)
      have hinv : ∃ rb ob, (∀ g, (Value.slice oq ds.length cq).ownBlock = some g → g = rb) ∧ w3.heap[rb]? = some ob ∧ Inv rb ob 0 w3 := by
        cases hv : (Value.slice oq ds.length cq).ownBlock with
        | none =>
          have hlt : w.heap.size < w3.heap.size := Nat.lt_of_lt_of_le hrlt hg3.size
          exact ⟨w.heap.size, w3.heap[w.heap.size], (fun g hg => nomatch hg), Array.getElem?_eq_getElem hlt, HH0.out _ _ w3 (Nat.le_refl _) (Array.getElem?_eq_getElem hlt) hb3⟩
        | some g =>
          have hlt := (hown3.lt g hv).2
          exact ⟨g, w3.heap[g], fun k hk => (Option.some.inj hk).symm, Array.getElem?_eq_getElem hlt, HH0.out _ _ w3 (by have := hge g hv; omega) (Array.getElem?_eq_getElem hlt) hb3⟩
      obtain ⟨rb, ob, hrb, hrob, hi0⟩ := hinv
      have hrow : ∀ i W, Inv rb ob i W → SlAt Dot.cells W (.slice oq ds.length cq) (hs.map fun p => p.2.dot) := fun i W hi => by
        rw [← hl']
        exact (hown3.keep fun g hg => by rw [hrb g hg, hrob]; exact (HHI.out rb ob i W hi).2).at
      have hn3 : ds.length ≤ 768 := by omega
      rw [hlen2] at hrow hn3 ⊢
      clear hcoll hdm HO hown3 hg3 hge hb3 hrob hrb hl' hll hmem hpw hle hg HB hlen2 HH0 hrlt
      have HROW := Lib.hid hrow
      have HI0 := Lib.hid hi0
      clear hrow hi0
      go_wp2_with fail
      go_loopg [27] hs.length (fun gk s27 wx => ∃ (i : Nat), s27 = .int .i64 i ∧ i ≤ hs.length ∧ hs.length - i ≤ gk ∧ Hid (Inv rb ob i wx))
      case atStart => exact ⟨0, rfl, Nat.zero_le _, Nat.le_refl _, HI0.out⟩
      case round =>
        obtain ⟨i, rfl, hi, hg, HI⟩ := hrel
        by_cases hlt : i < hs.length
        · have hltz : (i : Int) < (hs.length : Int) := by omega
          have hsl := HROW.out i _ HI.out
          obtain ⟨b, off, rfl⟩ := hsl.plain Dot.cells_len (by decide) (by intro e; have e2 := congrArg List.length e; rw [List.length_map] at e2; rw [e2] at hlt; exact absurd hlt (by simp))
          have c0 := hsl.cell Dot.cells_len (i := i) (c := 0) (by simpa using hlt) (by decide)
          have c1 := hsl.cell Dot.cells_len (i := i) (c := 1) (by simpa using hlt) (by decide)
          simp only [Dot.cells, List.getElem?_cons_zero, List.getElem?_cons_succ, List.getElem_map] at c0 c1
          have e0 : off + (i * 2 + 0) = off + i * 2 := by omega
          have e1 : off + (i * 2 + 1) = off + i * 2 + 1 := by omega
          rw [e0] at c0
          rw [e1] at c1
          have hst := HSTEP.out rb ob i hlt
          have hmem : hs[i] ∈ hs := List.getElem_mem hlt
          generalize hs[i] = p at *
          have hb1 := below_drew ((Below.refl wr.heap.size wr).alloc (Nat.le_refl _) (.cells #[.int .i64 p.2.dot.node, .int .i64 p.2.dot.seq] 28))
          have hi1 := HHM.out rb ob i wr _ HI.out hb1
          have hst1 := hst _ hi1
          obtain ⟨hob1, hmp1⟩ := (HHI.out rb ob i _ hi1).1
          have k1 := cell_of_row _ bb 1 _ _ _ hob1
          have hlook := hmp1.look Try.underlying57 (Try.zeroValue33 _) (may_fits (HMY.out p hmem))
          rw [(lookE_mem hmp1.nodup).2 ((H3.out p.2.dot (evVal p)).2 ⟨p, hmem, rfl, rfl⟩), Option.getD_some] at hlook
          have hnew : (wr.alloc (.cells #[.int .i64 p.2.dot.node, .int .i64 p.2.dot.seq] 28)).drew.heap[wr.heap.size]? = some (.cells #[.int .i64 p.2.dot.node, .int .i64 p.2.dot.seq] 28) := heap_alloc_new wr _
          have d0 := cell_of_row _ wr.heap.size 0 _ _ _ hnew
          have d1 := cell_of_row _ wr.heap.size 1 _ _ _ hnew
          generalize evVal p = ev at *
          have HST := Lib.hid hst1
          unfold dotVal at hlook
          clear hb1 hi1 hst hst1 hob1 hmp1 hnew hsl e0 e1 hmem HI HI0 HROW
          go_wp2_with fail
          generalize wr.alloc (.cells #[.int .i64 p.2.dot.node, .int .i64 p.2.dot.seq] 28) = wa at *
          go_region_law (first
            | (go_simp
               refine HST.out.mono ?_
               rintro e w4 ⟨c, rfl, hct, hcf⟩
               have HT := Lib.hid hct
               have HF := Lib.hid hcf
               clear hct hcf))
          all_goals
            clear HST k1 hlook d0 d1 c0 c1
            cases c with
            | true =>
              go_wp2_with fail
              go_roundg (hs.length - (i + 1))
              case measure => omega
              case rel => exact ⟨i + 1, by go_num, by omega, Nat.le_refl _, HT.out (by simp)⟩
            | false =>
              go_wp2_with fail
              first
                | exact bodyPost_ret (v := .tuple #[]) (by simp [results, Try.results27, go_sem]) rfl ⟨rfl, HF.out (by simp)⟩
                | (go_end0; exact ⟨rfl, HF.out (by simp)⟩)
        · have hltz : ¬ (i : Int) < (hs.length : Int) := by omega
          obtain rfl : i = hs.length := by omega
          go_wp2_with fail
          go_end0
          exact ⟨rfl, HQQ.out rb ob _ HI.out⟩
    · have HR2 := Lib.hid hrg2
      have HC2 := Lib.hid (HC.out.step hmem)
      have HO2 := Lib.hid (HO.out.kept hg2 (by
        cases hv : (Value.slice oq ds.length cq).ownBlock with
        | none => exact .inl rfl
        | some g => exact .inr fun e => by have := (HO.out.lt g hv).1; have := Option.some.inj e; omega))
      have hb2 : Below w.heap.size w w2 := HB.out.grown hg2 HB.out.size (fun k hk => by cases hk; exact Nat.le_refl _)
      have HB2 := Lib.hid hb2
      unfold dotVal at hrun hen
      clear hrg2 hg2 hb2 HR HC HO HB hmem HRG1 HB01
      go_wp2_with (at_builtin; refine wpList_app Dot.cells 2 Dot.cells_len (by decide) Dot.cells_one _ rfl _ _ 31 rfl (w.heap.size + 1) 28 _ 16 Try.underlying31 infoDot rfl _ ds rfl ?h1 _ [d] rfl ?h2 ?h3 ?h4 ?h5 ?_)
      case h1 => exact HO2.out.below (((Below.refl _ _).alloc (Nat.le_refl _) _).alloc (by simp) _) (Nat.le_refl _)
      case h2 =>
        have := slAt_new (enc := Dot.cells) (w2.alloc (.cells #[.int .i64 d.node, .int .i64 d.seq] 28)) #[.int .i64 d.node, .int .i64 d.seq] 28 1 1 (0, 0) [d] rfl rfl (by decide)
        rw [World.size_alloc, hs2] at this
        exact this
      case h3 => simp only [List.length_singleton]; omega
      case h4 => simp only [List.length_singleton]; omega
      case h5 => simp; omega
      intro v' w' hown2 hg2 hv2
      have hex : ∃ h : Hdr, v' = h.val := hdr_of_slAt hown2.at
      obtain ⟨⟨o2, n2, c2⟩, hvv⟩ := hex
      simp only [Hdr.val] at hvv
      subst hvv
      have hn : n2 = (ds ++ [d]).length := by
        obtain ⟨_, _, hv, _⟩ := hown2.at.slice_of
        simp only [Value.slice.injEq] at hv
        exact hv.2.1
      subst hn
      have HOWN2 := Lib.hid hown2
      have HG2 := Lib.hid hg2
      clear hown2 hg2 hv2
      go_wp2_with fail
      go_roundg ((delE todo d).length)
      case measure => omega
      case rel =>
        have hg1 : w2.grownBy _ (Value.slice oq ds.length cq).ownBlock := (World.grownBy_alloc w2 (.cells #[.int .i64 d.node, .int .i64 d.seq] 28) _).trans (World.grownBy_alloc _ (.cells #[.int .i64 d.node, .int .i64 d.seq] 28) _)
        have hg3 := hg1.trans HG2.out
        have hge : ∀ k, (Value.slice oq ds.length cq).ownBlock = some k → w.heap.size + 1 ≤ k := fun k hk => (HO2.out.lt k hk).1
        refine ⟨delE todo d, ds ++ [d], o2, c2, rfl, Nat.le_refl _, ?_, ?_, HOWN2.out, ?_, ?_, HC2.out⟩
        · rw [List.length_append, List.length_singleton]; omega
        · refine HR2.out.kept hg3 ?_ ?_
          · cases hv : (Value.slice oq ds.length cq).ownBlock with
            | none => simp
            | some g => exact fun e => by have := hge g hv; have := Option.some.inj e; omega
          · cases hv : (Value.slice oq ds.length cq).ownBlock with
            | none => simp
            | some g => exact fun e => by have := hge g hv; have := Option.some.inj e; omega
        · exact HB2.out.grown hg3 HB2.out.size (fun k hk => by have := hge k hk; omega)
        · have := hg3.size; omega
end Go.Proofs.Ytidiapgdgoeplaa
