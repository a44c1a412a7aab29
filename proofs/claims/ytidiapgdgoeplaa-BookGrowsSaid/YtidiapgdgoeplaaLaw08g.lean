/-
  The law BookGrows walked: it returns true, and turns nothing that was there.
-/
import Derived.Test.YtidiapgdgoeplaaAlive08
import Derived.Test.YtidiapgdgoeplaaMarked
import Derived.Test.YtidiapgdgoeplaaLessAll
import Derived.Test.YtidiapgdgoeplaaOpenEv
namespace Go.Proofs.Ytidiapgdgoeplaa
open Go.Shelf Go.RowKit Go.Lib Go.Sort
set_option linter.unusedVariables false
theorem hdrs_len {α : Type} {enc : α → List Value} {k base e : Nat} {w : World} {o : Option Addr} {n c : Nat} {l : List α} (h : Owns enc k base e w (.slice o n c) l) : n = l.length := by
  obtain ⟨_, _, hv, _⟩ := h.at.slice_of
  simp only [Value.slice.injEq] at hv
  exact hv.2.1
theorem Owns.turns {α : Type} {enc : α → List Value} {k base e a b c : Nat} {w w' : World} {v : Value} {l : List α} (h : Owns enc k base e w v l) (ht : Turns3 a b c w w') (ha : a < base) (hb : b < base) (hc : c < base) : Owns enc k base e w' v l :=
  h.keep fun g hg => by
    have h1 := h.lt g hg
    exact ht.block g h1.2 (by omega) (by omega) (by omega)
def CutAtX {α : Type} (b : α → Act) (F : α → World → Prop) : Exit → Act → World → Prop
  | .normal, a, w => ∃ x, a = b x ∧ F x w
  | _, _, _ => False
theorem wp_cutX {α : Type} {P : Program} {c : Code} {Q : Exit → Act → World → Prop} {a : Act} {w : World} (A : α → Act → Act) (F : α → World → Prop) (h1 : c.wp P (CutAtX (fun x => A x a) F) a w) (h2 : ∀ x w', F x w' → Q .normal (A x a) w') : c.wp P Q a w :=
  Code.wp_mono (fun e a' w' h => by
    cases e with
    | normal => obtain ⟨x, rfl, h⟩ := h; exact h2 x w' h
    | _ => exact h.elim) h1
theorem Owns.spared {α : Type} {enc : α → List Value} {k base e kb B : Nat} {w w' : World} {v : Value} {l : List α} (h : Owns enc k base e w v l) (hs : Spares kb B w w') (hB : w.heap.size ≤ B) (hk : kb < base) : Owns enc k base e w' v l :=
  h.keep fun g hg => hs.block g (by have := (h.lt g hg).2; omega) (by have := (h.lt g hg).1; omega)
theorem take_mem {l : List Dot} {i : Nat} (hi : i < l.length) (x : Dot) : x ∈ l.take (i + 1) ↔ x ∈ l.take i ∨ x = l[i] := by
  rw [List.take_add_one, List.getElem?_eq_getElem hi, Option.toList_some, List.mem_append, List.mem_singleton]
theorem takeE_ex {l : List Ev} {i : Nat} {e : Ev} (h : l[i]? = some e) (x : Dot) : (∃ y ∈ l.take (i + 1), y.dot = x) ↔ (∃ y ∈ l.take i, y.dot = x) ∨ x = e.dot := by
  obtain ⟨hi, he⟩ := List.getElem?_eq_some_iff.1 h
  rw [List.take_succ_eq_append_getElem hi, he]
  constructor
  · rintro ⟨y, hy, rfl⟩
    rcases List.mem_append.1 hy with hy | hy
    · exact .inl ⟨y, hy, rfl⟩
    · rw [List.mem_singleton] at hy
      subst hy
      exact .inr rfl
  · rintro (⟨y, hy, rfl⟩ | rfl)
    · exact ⟨y, List.mem_append_left _ hy, rfl⟩
    · exact ⟨e, List.mem_append_right _ (List.mem_singleton.2 rfl), rfl⟩
set_option maxRecDepth 100000 in
set_option maxHeartbeats 8000000 in
theorem lawGrows (oa : Option Addr) (cap : Nat) (ps : List PEv) (w : World) (h : EvsAt w (.slice oa ps.length cap) ps) (hl : ps.length ≤ 1099511627776) (hf : ∀ p ∈ ps, p.2.fits) :
    Calls Try.prog 5 #[.slice oa ps.length cap] w fun e w' => e = .returned (.bool true) ∧ RowKit.Below w.heap.size w w' := by
  have hmm := @run_makeMap Try.prog
  have AL := Lib.hid alive08_any
  have hgr := fun W (hE : EvsAt W (.slice oa ps.length cap) ps) => great_any oa cap ps W hE hl (fun p hp => (hf p hp).2.2.2.2.2.2.2)
  have HGR := Lib.hid hgr
  have HE := Lib.hid h
  clear h hgr hf
  go_enter Try.func5, Try.ntmps5
  go_wp2_with fail
  refine (AL.out _).mono ?_
  rintro e w1 ⟨rfl, hb1⟩
  have HB1 := Lib.hid hb1
  have hz1 := hb1.size
  clear hb1 AL
  by_cases h60 : (100 : Int) < (ps.length : Int)
  · go_wp2_with fail
    go_ret
    exact ⟨rfl, HB1.out⟩
  go_wp2_with fail
  refine (HGR.out _ (HE.out.below HB1.out (Nat.le_refl _))).mono ?_
  rintro e w2 ⟨rfl, hb2⟩
  have HB2 := Lib.hid (HB1.out.trans (hb2.mono HB1.out.size))
  have hz2 := hb2.size
  clear hb2 HB1 HGR
  by_cases hbk : 3000 < bulk (ps.map (·.2))
  · rw [decide_eq_true hbk]
    go_wp2_with fail
    go_ret
    exact ⟨rfl, HB2.out⟩
  rw [decide_eq_false hbk]
  have HREM : Hid (∀ p ∈ ps, p.2.rem.length ≤ 1000000) := fun p hp => by
    have := bulk_mem (ps.map (·.2)) p.2 (List.mem_map_of_mem hp)
    omega
  clear hbk
  go_wp2_with fail
  refine (bookNew_any w2).mono ?_
  rintro e w3 ⟨bb, ms, mh, B, rfl, hbk3, hb3, l1, l2, l3⟩
  have hB3 := hbk3.size
  have hlb := hbk3.ltb
  have hls := hbk3.lts
  have hlh := hbk3.lth
  have hz3 := hb3.size
  have hba := (Below.refl w3.heap.size w3).alloc (Nat.le_refl _) (.map #[] 0)
  have hma : (w3.alloc (.map #[] 0)).heap[w3.heap.size]? = some (.map #[] 0) := heap_alloc_new w3 _
  have HRUN3 : Hid (BookRun w2 bb ms mh B BookS.new (w3.alloc (.map #[] 0))) := BookRun.past ⟨hbk3, fine_new, hb3, l1, l2, l3⟩ hba
  have HMK3 := Lib.hid (Marked.none hma)
  clear hbk3 hb3 hba hma
  go_wp2_with fail
  go_loopg [28] ps.length (fun gk s28 wr => ∃ (i : Nat) (R : Dot → Prop), s28 = .int .i64 i ∧ i ≤ ps.length ∧ ps.length - i ≤ gk ∧ Hid (BookRun w2 bb ms mh B (addsB BookS.new ((ps.take i).map (·.2))) wr) ∧ Hid (Marked w3.heap.size wr R) ∧ Hid (Grows (addsB BookS.new ((ps.take i).map (·.2))) R))
  case atStart => exact ⟨0, fun _ => False, rfl, Nat.zero_le _, Nat.le_refl _, by show BookRun _ _ _ _ _ _ _; rw [addsB_zero]; exact HRUN3.out, HMK3.out, by show Grows _ _; rw [addsB_zero]; exact grows_new⟩
  case round =>
    obtain ⟨i, R, rfl, hi, hg, HRUN, HMK, HGW⟩ := hrel
    by_cases hlt : i < ps.length
    · have hltz : (i : Int) < (ps.length : Int) := by omega
      have hbw := HB2.out.trans (HRUN.out.below.mono HB2.out.size)
      have hsl : SlAt pcells wr (.slice oa ps.length cap) ps := HE.out.1.below pcells_len (by decide) hbw (Nat.le_refl _)
      obtain ⟨b, off, rfl⟩ := slAt_some hsl i hlt
      obtain ⟨ra, rn, rc, ev, hp, c0, c1, c2, c3, c4, c5, c6, c7, c8, c9, c10, c11, c12, c13⟩ := hsl.ev i hlt
      have hmem : (⟨⟨ra, rn, rc⟩, ev⟩ : PEv) ∈ ps := List.mem_of_getElem? hp
      have hrem2 := (HE.out.2 _ hmem).below Dot.cells_len (by decide) HB2.out (Nat.le_refl _)
      have hrl := HREM.out _ hmem
      have htk := addsB_take hp BookS.new
      simp only [Hdr.val] at htk hrem2 hrl
      obtain rfl : rn = ev.rem.length := by
        obtain ⟨_, _, hv, _⟩ := hrem2.slice_of
        simp only [Value.slice.injEq] at hv
        exact hv.2.1
      obtain ⟨S, hS⟩ : ∃ S, addsB BookS.new ((ps.take i).map (·.2)) = S := ⟨_, rfl⟩
      rw [hS] at htk HRUN HGW
      have hzr := HMK.out.lt
      have hbe := (Below.refl wr.heap.size wr).alloc (Nat.le_refl _) (.cells #[.int .i64 ev.dot.node, .int .i64 ev.dot.seq, .int .i64 ev.time, .int .i64 ev.kind, .int .i64 ev.work, .int .i64 ev.value, .int .i64 ev.pol.mn, .int .i64 ev.pol.mx, .int .i64 ev.pol.goal, .int .i64 ev.pol.slack, .int .i64 ev.pol.up, .int .i64 ev.pol.down, .int .i64 ev.pol.cool, .slice ra ev.rem.length rc] 33)
      have hre : (wr.alloc (.cells #[.int .i64 ev.dot.node, .int .i64 ev.dot.seq, .int .i64 ev.time, .int .i64 ev.kind, .int .i64 ev.work, .int .i64 ev.value, .int .i64 ev.pol.mn, .int .i64 ev.pol.mx, .int .i64 ev.pol.goal, .int .i64 ev.pol.slack, .int .i64 ev.pol.up, .int .i64 ev.pol.down, .int .i64 ev.pol.cool, .slice ra ev.rem.length rc] 33)).heap[wr.heap.size]? = _ := heap_alloc_new wr _
      have hze : (wr.alloc (.cells #[.int .i64 ev.dot.node, .int .i64 ev.dot.seq, .int .i64 ev.time, .int .i64 ev.kind, .int .i64 ev.work, .int .i64 ev.value, .int .i64 ev.pol.mn, .int .i64 ev.pol.mx, .int .i64 ev.pol.goal, .int .i64 ev.pol.slack, .int .i64 ev.pol.up, .int .i64 ev.pol.down, .int .i64 ev.pol.cool, .slice ra ev.rem.length rc] 33)).heap.size = wr.heap.size + 1 := World.size_alloc _ _
      have hsn := seen_any bb ms mh B S HRUN.out.fine.ok _ (HRUN.out.past hbe).book
      have HSN := Lib.hid hsn
      have HBE := Lib.hid hbe
      have HRE := Lib.hid hre
      have HTK := Lib.hid htk
      have HR2 := Lib.hid hrem2
      have HRL := Lib.hid (fun hne => hrem2.lt Dot.cells_len (by decide) hne)
      clear hsl hp hmem hrem2 htk hbw hS hsn hbe hre
      go_wp2_with fail
      generalize wr.alloc (.cells #[.int .i64 ev.dot.node, .int .i64 ev.dot.seq, .int .i64 ev.time, .int .i64 ev.kind, .int .i64 ev.work, .int .i64 ev.value, .int .i64 ev.pol.mn, .int .i64 ev.pol.mx, .int .i64 ev.pol.goal, .int .i64 ev.pol.slack, .int .i64 ev.pol.up, .int .i64 ev.pol.down, .int .i64 ev.pol.cool, .slice ra ev.rem.length rc] 33) = we at *
      refine HSN.out.mono ?_
      rintro e w5 ⟨⟨o5, n5, q5⟩, t5, rfl, hcl5, hown5, hb5⟩
      obtain rfl : n5 = t5.more.length := hdrs_len (o := o5) (c := q5) hown5
      have hz5 := hb5.size
      have hq5 : (qcells (⟨o5, t5.more.length, q5⟩, t5)).toArray = #[.int .i64 (t5.u 0), .int .i64 (t5.u 1), .int .i64 (t5.u 2), .int .i64 (t5.u 3), .int .i64 (t5.u 4), .int .i64 (t5.u 5), .int .i64 (t5.u 6), .int .i64 (t5.u 7), .slice o5 t5.more.length q5] := rfl
      rw [hq5]
      have hb6 := (Below.refl w5.heap.size w5).alloc (Nat.le_refl _) (.cells #[.int .i64 (t5.u 0), .int .i64 (t5.u 1), .int .i64 (t5.u 2), .int .i64 (t5.u 3), .int .i64 (t5.u 4), .int .i64 (t5.u 5), .int .i64 (t5.u 6), .int .i64 (t5.u 7), .slice o5 t5.more.length q5] 42)
      have hz6 : (w5.alloc (.cells #[.int .i64 (t5.u 0), .int .i64 (t5.u 1), .int .i64 (t5.u 2), .int .i64 (t5.u 3), .int .i64 (t5.u 4), .int .i64 (t5.u 5), .int .i64 (t5.u 6), .int .i64 (t5.u 7), .slice o5 t5.more.length q5] 42)).heap.size = w5.heap.size + 1 := World.size_alloc _ _
      have hr6 : SetRow (w5.alloc (.cells #[.int .i64 (t5.u 0), .int .i64 (t5.u 1), .int .i64 (t5.u 2), .int .i64 (t5.u 3), .int .i64 (t5.u 4), .int .i64 (t5.u 5), .int .i64 (t5.u 6), .int .i64 (t5.u 7), .slice o5 t5.more.length q5] 42)) w5.heap.size ⟨o5, t5.more.length, q5⟩ t5 := heap_alloc_new w5 _
      have hbr6 : Below wr.heap.size wr (w5.alloc (.cells #[.int .i64 (t5.u 0), .int .i64 (t5.u 1), .int .i64 (t5.u 2), .int .i64 (t5.u 3), .int .i64 (t5.u 4), .int .i64 (t5.u 5), .int .i64 (t5.u 6), .int .i64 (t5.u 7), .slice o5 t5.more.length q5] 42)) := HBE.out.trans ((hb5.trans (hb6.mono hz5)).mono (by omega))
      have hre6 := (hb6.block wr.heap.size (by omega)).trans ((hb5.block _ (by omega)).trans HRE.out)
      have hadd := HRUN.out.add2 hbr6 ⟨ra, ev.rem.length, rc⟩ ev HR2.out hrl
      have HADD := Lib.hid hadd
      have HR6 := Lib.hid hr6
      have HRE6 := Lib.hid hre6
      have HO6 := Lib.hid (hown5.below hb6 (Nat.le_refl _))
      have HMK6 := Lib.hid (HMK.out.keep (hbr6.block _ hzr))
      have HG5 := Lib.hid (hcl5.grid HRUN.out.fine.ok)
      have HM5 := Lib.hid (hcl5.right HRUN.out.fine.ok).2.1
      have HFS := Lib.hid HRUN.out.fine
      obtain ⟨e0, e1, e2, e3, e4, e5, e6, e7, e8, e9, e10, e11, e12, e13⟩ := ev_row hre6
      clear hq5 hcl5 hown5 hb5 hb6 hr6 hbr6 hre6 hadd HSN HBE HRE HMK HRUN c0 c1 c2 c3 c4 c5 c6 c7 c8 c9 c10 c11 c12 c13
      go_wp2_with fail
      generalize w5.alloc (.cells #[.int .i64 (t5.u 0), .int .i64 (t5.u 1), .int .i64 (t5.u 2), .int .i64 (t5.u 3), .int .i64 (t5.u 4), .int .i64 (t5.u 5), .int .i64 (t5.u 6), .int .i64 (t5.u 7), .slice o5 t5.more.length q5] 42) = w6 at *
      refine HADD.out.mono ?_
      rintro e w7 ⟨rfl, hrun7, ht7⟩
      have hz7 := ht7.size
      have hr7 : SetRow w7 w5.heap.size ⟨o5, t5.more.length, q5⟩ t5 := (ht7.block _ (by omega) (by omega) (by omega) (by omega)).trans HR6.out
      have hre7 := (ht7.block wr.heap.size (by omega) (by omega) (by omega) (by omega)).trans HRE6.out
      have x13 := (ev_row hre7).2.2.2.2.2.2.2.2.2.2.2.2.2
      have hmk7 := HMK6.out.keep (ht7.block w3.heap.size (by omega) (by omega) (by omega) (by omega))
      have ho7 := HO6.out.turns ht7 (by omega) (by omega) (by omega)
      have HR7 := Lib.hid hr7
      have HMK7 := Lib.hid hmk7
      have HO7 := Lib.hid ho7
      clear hr7 hre7 hmk7 ho7 ht7 HADD HR6 HRE6 HO6 HMK6 e0 e1 e2 e3 e4 e5 e6 e7 e8 e9 e10 e11 e12 e13
      rcases addB_parts S ev with ⟨hres, hrt, hns⟩ | ⟨c, hc, hres⟩
      · rw [hres] at hrun7
        simp only [hres] at HTK ⊢
        have HRUN7 := Lib.hid hrun7
        have HGW7 := Lib.hid (HGW.out.take hrt hns)
        have HMYR := Lib.hid (fun d (hd : d ∈ ev.rem) => (hrt.2.2.2.2.1.1 d hd).1)
        have HKP : Hid (∀ n q, S.saw n q = true → (takeB S ev).saw n q = true) := fun n q h => takeB_keeps HFS.out hrt hns n q h
        obtain ⟨T, hT⟩ : ∃ T, takeB S ev = T := ⟨_, rfl⟩
        rw [hT] at HTK HRUN7 HGW7 HKP
        have HR27 := Lib.hid (HR2.out.below Dot.cells_len (by decide) HRUN7.out.below (Nat.le_refl _))
        clear hres hrt hns hrun7 hT HGW HFS HR2
        go_wp2_with fail
        go_loopg [41] ev.rem.length (fun gk s41 wr => ∃ (i2 : Nat), s41 = .int .i64 i2 ∧ i2 ≤ ev.rem.length ∧ ev.rem.length - i2 ≤ gk ∧ Hid (Marked w3.heap.size wr (fun x => R x ∨ x ∈ ev.rem.take i2)) ∧ Hid (Spares w3.heap.size w7.heap.size w7 wr))
        case atStart => exact ⟨0, rfl, Nat.zero_le _, Nat.le_refl _, HMK7.out.same fun d _ => by simp, Spares.refl _ _ _⟩
        case round =>
          obtain ⟨i2, rfl, hi2, hg2, HMK8, HSP⟩ := hrel
          have hs8 := HSP.out.size
          by_cases hlt2 : i2 < ev.rem.length
          · have hltz2 : (i2 : Int) < (ev.rem.length : Int) := by omega
            have hsl2 : SlAt Dot.cells wr (.slice ra ev.rem.length rc) ev.rem := HR27.out.keep (.inr fun b hb => HSP.out.block b (HR27.out.lt Dot.cells_len (by decide) (by intro e; rw [e] at hlt2; exact absurd hlt2 (by simp)) b hb) (by have := HRL.out (by intro e; rw [e] at hlt2; exact absurd hlt2 (by simp)) b hb; omega))
            obtain ⟨b2, off2, rfl⟩ := hsl2.plain Dot.cells_len (by decide) (by intro e; rw [e] at hlt2; exact absurd hlt2 (by simp))
            have g0 := hsl2.cell Dot.cells_len (i := i2) (c := 0) hlt2 (by decide)
            have g1 := hsl2.cell Dot.cells_len (i := i2) (c := 1) hlt2 (by decide)
            simp only [Dot.cells, List.getElem?_cons_zero, List.getElem?_cons_succ] at g0 g1
            rw [show off2 + (i2 * 2 + 0) = off2 + i2 * 2 by omega] at g0
            rw [show off2 + (i2 * 2 + 1) = off2 + i2 * 2 + 1 by omega] at g1
            have hmy := HMYR.out _ (List.getElem_mem hlt2)
            have htm := take_mem hlt2
            generalize ev.rem[i2] = d at *
            have hb9 := (Below.refl wr.heap.size wr).alloc (Nat.le_refl _) (.cells #[.int .i64 d.node, .int .i64 d.seq] 28)
            obtain ⟨w9, hrun9, hmk9, hg9⟩ := (HMK8.out.keep (hb9.block _ HMK8.out.lt)).put hmy
            unfold dotVal at hrun9
            have HMK9 := Lib.hid (hmk9.same (ds' := fun x => R x ∨ x ∈ ev.rem.take (i2 + 1)) fun x _ => by rw [htm, or_assoc])
            have HSP9 := Lib.hid (HSP.out.trans ((Spares.of_below hb9 hs8).trans ⟨hg9.os, hg9.tape, hg9.output, hg9.size, fun i hi hne => hg9.block i (by rw [World.size_alloc]; omega) (fun e => hne (Option.some.inj e))⟩))
            clear hsl2 hmy htm hb9 hmk9 hg9 HMK8 HSP
            go_wp2_with fail
            go_roundg (ev.rem.length - (i2 + 1))
            case measure => omega
            case rel => exact ⟨i2 + 1, by go_num, by omega, Nat.le_refl _, HMK9.out, HSP9.out⟩
          · have hltz2 : ¬ (i2 : Int) < (ev.rem.length : Int) := by omega
            obtain rfl : i2 = ev.rem.length := by omega
            have hmk8 := HMK8.out
            rw [List.take_length] at hmk8
            have hr8 : SetRow wr w5.heap.size ⟨o5, t5.more.length, q5⟩ t5 := (HSP.out.block _ (by omega) (by omega)).trans HR7.out
            have ho8 := HO7.out.spared HSP.out (Nat.le_refl _) (by omega)
            have hrun8 := HRUN7.out.spared HMK7.out hB3 (by omega) HSP.out
            have HMK8' := Lib.hid hmk8
            have HR8 := Lib.hid hr8
            have HO8 := Lib.hid ho8
            have HRUN8 := Lib.hid hrun8
            clear hmk8 hr8 ho8 hrun8 HMK8 HSP HMK7 HR7 HO7 HRUN7 HR27 HMYR x13
            go_wp2_with fail
            obtain ⟨k0, k1, k2, k3, k4, k5, k6, k7, k8⟩ := (show SetRow wr.drew w5.heap.size ⟨o5, t5.more.length, q5⟩ t5 from HR8.out).cells
            simp only [Hdr.val] at k8
            have hsn := seen_any bb ms mh B T HRUN8.out.fine.ok wr.drew (HRUN8.out.past (below_drew (Below.refl _ _))).book
            have HSN := Lib.hid hsn
            have HM5' := HM5.out
            clear hsn
            refine wp_cutX (fun (x : Value × Value) a => ((((((a.put (some 48) (.agg #[.int .i64 (t5.u 0), .int .i64 (t5.u 1), .int .i64 (t5.u 2), .int .i64 (t5.u 3), .int .i64 (t5.u 4), .int .i64 (t5.u 5), .int .i64 (t5.u 6), .int .i64 (t5.u 7), .slice o5 t5.more.length q5])).put (some 49) (.pointer (some ⟨bb, 0, none⟩))).put (some 50) x.1).put (some 51) x.2).put (some 52) (.int .i64 0)).put (some 53) (.bool false))) (fun _ w' => Below wr.heap.size wr w') ?_ ?_
            next =>
              go_region_law (first
                | (go_simp
                   refine HSN.out.mono ?_
                   rintro e w9 ⟨⟨o9, n9, q9⟩, t9, rfl, hcl, hown9, hb9⟩
                   have hz9 : wr.heap.size ≤ w9.heap.size := hb9.size
                   obtain rfl : n9 = t9.more.length := hdrs_len (o := o9) (c := q9) hown9
                   have hml : t9.more.length ≤ 1000000 := by
                     have h := (hcl.right HRUN8.out.fine.ok).2.1
                     omega
                   have hb9' : Below wr.heap.size wr w9 := (below_drew (Below.refl _ _)).trans hb9
                   have hls := lessAll_any o5 o9 q5 q9 t5 t9 w9 (HO8.out.below hb9' (Nat.le_refl _)).at hown9.at (by omega) hml (fun d hd => by
                     have h1 := (mem_dotsOf t5.grid_ok).1 hd
                     rw [hcl.grid HRUN8.out.fine.ok]
                     exact HKP.out _ _ (by rw [← HG5.out]; exact h1.2))
                   have HLS := Lib.hid hls
                   have hr9 : SetRow w9 w5.heap.size ⟨o5, t5.more.length, q5⟩ t5 := (hb9'.block _ (by have := (Array.getElem?_eq_some_iff.1 HR8.out).1; omega)).trans HR8.out
                   obtain ⟨m0, m1, m2, m3, m4, m5, m6, m7, m8⟩ := hr9.cells
                   simp only [Hdr.val] at m8
                   have hq9 : (qcells (⟨o9, t9.more.length, q9⟩, t9)).toArray = #[.int .i64 (t9.u 0), .int .i64 (t9.u 1), .int .i64 (t9.u 2), .int .i64 (t9.u 3), .int .i64 (t9.u 4), .int .i64 (t9.u 5), .int .i64 (t9.u 6), .int .i64 (t9.u 7), .slice o9 t9.more.length q9] := rfl
                   rw [hq9]
                   have HB9 := Lib.hid hb9'
                   clear hcl hown9 hb9 hb9' hml hls hr9 hq9 HSN)
                | (go_simp
                   refine HLS.out.mono ?_
                   rintro e w10 ⟨o10, c10, rfl, hb10⟩
                   have HB10 := Lib.hid (HB9.out.trans (hb10.mono hz9))
                   clear hb10 HLS))
              all_goals
                exact ⟨(.agg #[.int .i64 (t9.u 0), .int .i64 (t9.u 1), .int .i64 (t9.u 2), .int .i64 (t9.u 3), .int .i64 (t9.u 4), .int .i64 (t9.u 5), .int .i64 (t9.u 6), .int .i64 (t9.u 7), .slice o9 t9.more.length q9], .slice o10 0 c10), by kernel_rfl, HB10.out⟩
            rintro x w10 hb10
            have HRUN10 := Lib.hid (HRUN8.out.past hb10)
            have HMK10 := Lib.hid (HMK8'.out.keep (hb10.block _ HMK8'.out.lt))
            clear hb10 HRUN8 HMK8' HR8 HO8 HSN k0 k1 k2 k3 k4 k5 k6 k7 k8 HKP HG5 HM5 HM5'
            simp only [Act.put, List.setIfInBounds_toArray, List.set_cons_succ, List.set_cons_zero]
            go_wp2_with fail
            go_roundg (ps.length - (i + 1))
            case measure => omega
            case rel => exact ⟨i + 1, _, by go_num, by omega, Nat.le_refl _, by show BookRun _ _ _ _ _ _ _; rw [HTK.out]; exact HRUN10.out, HMK10.out, by show Grows _ _; rw [HTK.out]; exact HGW7.out⟩
      · rw [hres] at hrun7
        simp only [hres] at HTK ⊢
        have hcb : (c == 0) = false := by simpa using hc
        have HRUN8 := Lib.hid hrun7
        have HMK8' := HMK7
        have HR8 := HR7
        have HO8 := HO7
        have HGW7 := HGW
        have HKP : Hid (∀ n q, S.saw n q = true → S.saw n q = true) := fun n q h => h
        clear hres hrun7 HGW HMK7 HR7 HO7 hc HFS HR2 x13
        go_wp2_with fail
        obtain ⟨k0, k1, k2, k3, k4, k5, k6, k7, k8⟩ := (show SetRow w7.drew w5.heap.size ⟨o5, t5.more.length, q5⟩ t5 from HR8.out).cells
        simp only [Hdr.val] at k8
        have hsn := seen_any bb ms mh B S HRUN8.out.fine.ok w7.drew (HRUN8.out.past (below_drew (Below.refl _ _))).book
        have HSN := Lib.hid hsn
        have HM5' := HM5.out
        clear hsn
        refine wp_cutX (fun (x : Value × Value) a => ((((((a.put (some 48) (.agg #[.int .i64 (t5.u 0), .int .i64 (t5.u 1), .int .i64 (t5.u 2), .int .i64 (t5.u 3), .int .i64 (t5.u 4), .int .i64 (t5.u 5), .int .i64 (t5.u 6), .int .i64 (t5.u 7), .slice o5 t5.more.length q5])).put (some 49) (.pointer (some ⟨bb, 0, none⟩))).put (some 50) x.1).put (some 51) x.2).put (some 52) (.int .i64 0)).put (some 53) (.bool false))) (fun _ w' => Below w7.heap.size w7 w') ?_ ?_
        next =>
          go_region_law (first
            | (go_simp
               refine HSN.out.mono ?_
               rintro e w9 ⟨⟨o9, n9, q9⟩, t9, rfl, hcl, hown9, hb9⟩
               have hz9 : w7.heap.size ≤ w9.heap.size := hb9.size
               obtain rfl : n9 = t9.more.length := hdrs_len (o := o9) (c := q9) hown9
               have hml : t9.more.length ≤ 1000000 := by
                 have h := (hcl.right HRUN8.out.fine.ok).2.1
                 omega
               have hb9' : Below w7.heap.size w7 w9 := (below_drew (Below.refl _ _)).trans hb9
               have hls := lessAll_any o5 o9 q5 q9 t5 t9 w9 (HO8.out.below hb9' (Nat.le_refl _)).at hown9.at (by omega) hml (fun d hd => by
                 have h1 := (mem_dotsOf t5.grid_ok).1 hd
                 rw [hcl.grid HRUN8.out.fine.ok]
                 exact HKP.out _ _ (by rw [← HG5.out]; exact h1.2))
               have HLS := Lib.hid hls
               have hr9 : SetRow w9 w5.heap.size ⟨o5, t5.more.length, q5⟩ t5 := (hb9'.block _ (by have := (Array.getElem?_eq_some_iff.1 HR8.out).1; omega)).trans HR8.out
               obtain ⟨m0, m1, m2, m3, m4, m5, m6, m7, m8⟩ := hr9.cells
               simp only [Hdr.val] at m8
               have hq9 : (qcells (⟨o9, t9.more.length, q9⟩, t9)).toArray = #[.int .i64 (t9.u 0), .int .i64 (t9.u 1), .int .i64 (t9.u 2), .int .i64 (t9.u 3), .int .i64 (t9.u 4), .int .i64 (t9.u 5), .int .i64 (t9.u 6), .int .i64 (t9.u 7), .slice o9 t9.more.length q9] := rfl
               rw [hq9]
               have HB9 := Lib.hid hb9'
               clear hcl hown9 hb9 hb9' hml hls hr9 hq9 HSN)
            | (go_simp
               refine HLS.out.mono ?_
               rintro e w10 ⟨o10, c10, rfl, hb10⟩
               have HB10 := Lib.hid (HB9.out.trans (hb10.mono hz9))
               clear hb10 HLS))
          all_goals
            exact ⟨(.agg #[.int .i64 (t9.u 0), .int .i64 (t9.u 1), .int .i64 (t9.u 2), .int .i64 (t9.u 3), .int .i64 (t9.u 4), .int .i64 (t9.u 5), .int .i64 (t9.u 6), .int .i64 (t9.u 7), .slice o9 t9.more.length q9], .slice o10 0 c10), by kernel_rfl, HB10.out⟩
        rintro x w10 hb10
        have HRUN10 := Lib.hid (HRUN8.out.past hb10)
        have HMK10 := Lib.hid (HMK8'.out.keep (hb10.block _ HMK8'.out.lt))
        clear hb10 HRUN8 HMK8' HR8 HO8 HSN k0 k1 k2 k3 k4 k5 k6 k7 k8 HKP HG5 HM5 HM5'
        simp only [Act.put, List.setIfInBounds_toArray, List.set_cons_succ, List.set_cons_zero]
        go_wp2_with fail
        go_roundg (ps.length - (i + 1))
        case measure => omega
        case rel => exact ⟨i + 1, _, by go_num, by omega, Nat.le_refl _, by show BookRun _ _ _ _ _ _ _; rw [HTK.out]; exact HRUN10.out, HMK10.out, by show Grows _ _; rw [HTK.out]; exact HGW7.out⟩
    · have hltz : ¬ (i : Int) < (ps.length : Int) := by omega
      obtain rfl : i = ps.length := by omega
      have hrun := HRUN.out
      have hgw := HGW.out
      obtain ⟨S, hS⟩ : ∃ S, addsB BookS.new ((ps.take ps.length).map (·.2)) = S := ⟨_, rfl⟩
      rw [hS] at hrun hgw
      have hzr := HMK.out.lt
      have hz5 := hrun.below.size
      obtain ⟨V, hV⟩ : ∃ V, wr.heap.size = V := ⟨_, rfl⟩
      have HB5 := Lib.hid (HB2.out.trans (hrun.below.mono HB2.out.size))
      have hba := (Below.refl wr.heap.size wr).alloc (Nat.le_refl _) (.map #[] 0)
      have hma : (wr.alloc (.map #[] 0)).heap[wr.heap.size]? = some (.map #[] 0) := heap_alloc_new wr _
      have hza : (wr.alloc (.map #[] 0)).heap.size = wr.heap.size + 1 := World.size_alloc _ _
      have hruna := hrun.past hba
      have hev := events_any bb ms mh B S _ hruna.book hruna.fine.by' (fine_rems hruna.fine)
      have HEV := Lib.hid hev
      have HF := Lib.hid hrun.fine
      have HGS := Lib.hid hgw
      have HMKA := Lib.hid (HMK.out.keep (hba.block _ hzr))
      have HMHA := Lib.hid (Marked.none hma)
      have HBK := Lib.hid (fun (W : World) (hs : V ≤ W.heap.size) (hk : ∀ i, i < V → W.heap[i]? = wr.heap[i]?) => hrun.book.keep (by omega) (fun i hi => hk i (by omega)) (W' := W))
      have HBA := Lib.hid (HB5.out.trans (hba.mono HB5.out.size))
      have hkA : ∀ i, i < V → (wr.alloc (.map #[] 0)).heap[i]? = wr.heap[i]? := fun i hi => hba.block i (by omega)
      rw [hV] at HMHA hza
      have HKA := Lib.hid hkA
      clear hrun hgw hS hba hma hruna hev hkA HMK3 HMK HGW HRUN HREM HE HB2 HB5 HRUN3
      go_wp2_with fail
      generalize wr.alloc (.map #[] 0) = wa at *
      refine HEV.out.mono ?_
      rintro e w6 ⟨⟨oN, nN, qN⟩, pN, rfl, hpN, haccN, hb6⟩
      obtain rfl : nN = pN.length := hdrs_len (o := oN) (c := qN) haccN.row
      have hz6 := hb6.size
      have HA6 := Lib.hid haccN.row
      have HPN := Lib.hid hpN
      have HK6 := Lib.hid (fun i (hi : i < V) => (hb6.block i (by omega)).trans (HKA.out i hi))
      have HMK6 := Lib.hid (HMKA.out.keep (hb6.block _ (by omega)))
      have HMH6 := Lib.hid (HMHA.out.keep (hb6.block _ (by omega)))
      have HB6 := Lib.hid (HBA.out.trans (hb6.mono HBA.out.size))
      have hnl : pN.length ≤ 768 := by
        have h1 := congrArg List.length hpN
        rw [List.length_map] at h1
        have := held_len HF.out.by' (fun e he => (HF.out.right e he).1)
        omega
      have hwV : w.heap.size ≤ V := by omega
      have hzrV : w3.heap.size < V := by omega
      clear haccN hpN hb6 HEV HKA HMKA HMHA HBA
      simp only [Hdr.val]
      go_wp2_with fail
      go_loopg [59] pN.length (fun gk s59 wr => ∃ (i : Nat), s59 = .int .i64 i ∧ i ≤ pN.length ∧ pN.length - i ≤ gk ∧ Hid (Marked V wr (fun x => ∃ y ∈ S.holds.take i, y.dot = x)) ∧ Hid (Spares V w6.heap.size w6 wr))
      case atStart => exact ⟨0, rfl, Nat.zero_le _, Nat.le_refl _, HMH6.out.same fun d _ => by simp, Spares.refl _ _ _⟩
      case round =>
        obtain ⟨i, rfl, hi, hg, HMH, HSP⟩ := hrel
        have hs7 := HSP.out.size
        by_cases hlt : i < pN.length
        · have hltz : (i : Int) < (pN.length : Int) := by omega
          have hsl := (HA6.out.spared HSP.out (Nat.le_refl _) (by omega)).at
          obtain ⟨b, off, rfl⟩ := slAt_some hsl i hlt
          obtain ⟨ra, rn, rc, ev, hp, c0, c1, c2, c3, c4, c5, c6, c7, c8, c9, c10, c11, c12, c13⟩ := hsl.ev i hlt
          have hp2 : S.holds[i]? = some ev := by rw [← HPN.out, List.getElem?_map, hp]; rfl
          have hin : ev ∈ S.holds := List.mem_of_getElem? hp2
          have hmy := (HF.out.right ev hin).1
          have hno := HGS.out.none ev hin
          have hex := takeE_ex hp2
          have hb7 := (Below.refl wr.heap.size wr).alloc (Nat.le_refl _) (.cells #[.int .i64 ev.dot.node, .int .i64 ev.dot.seq, .int .i64 ev.time, .int .i64 ev.kind, .int .i64 ev.work, .int .i64 ev.value, .int .i64 ev.pol.mn, .int .i64 ev.pol.mx, .int .i64 ev.pol.goal, .int .i64 ev.pol.slack, .int .i64 ev.pol.up, .int .i64 ev.pol.down, .int .i64 ev.pol.cool, .slice ra rn rc] 33)
          have hr7 : (wr.alloc (.cells #[.int .i64 ev.dot.node, .int .i64 ev.dot.seq, .int .i64 ev.time, .int .i64 ev.kind, .int .i64 ev.work, .int .i64 ev.value, .int .i64 ev.pol.mn, .int .i64 ev.pol.mx, .int .i64 ev.pol.goal, .int .i64 ev.pol.slack, .int .i64 ev.pol.up, .int .i64 ev.pol.down, .int .i64 ev.pol.cool, .slice ra rn rc] 33)).heap[wr.heap.size]? = _ := heap_alloc_new wr _
          have hz7 : (wr.alloc (.cells #[.int .i64 ev.dot.node, .int .i64 ev.dot.seq, .int .i64 ev.time, .int .i64 ev.kind, .int .i64 ev.work, .int .i64 ev.value, .int .i64 ev.pol.mn, .int .i64 ev.pol.mx, .int .i64 ev.pol.goal, .int .i64 ev.pol.slack, .int .i64 ev.pol.up, .int .i64 ev.pol.down, .int .i64 ev.pol.cool, .slice ra rn rc] 33)).heap.size = wr.heap.size + 1 := World.size_alloc _ _
          obtain ⟨e0, e1, _⟩ := ev_row hr7
          obtain ⟨w8, hrun8, hmk8, hg8⟩ := (HMH.out.keep (hb7.block _ HMH.out.lt)).put hmy
          have hr8 := (hg8.block wr.heap.size (by omega) (fun e => by have := Option.some.inj e; have := HMH.out.lt; omega)).trans hr7
          obtain ⟨f0, f1, _⟩ := ev_row hr8
          have hk8 : w8.heap[w3.heap.size]? = w6.heap[w3.heap.size]? := (hg8.block _ (by omega) (fun e => by have := Option.some.inj e; omega)).trans ((hb7.block _ (by omega)).trans (HSP.out.block _ (by omega) (by omega)))
          have hlook := (HMK6.out.keep hk8).look hmy false ⟨(fun h => nomatch h), fun h => absurd h hno⟩
          unfold dotVal at hrun8 hlook
          have HMH8 := Lib.hid (hmk8.same (ds' := fun x => ∃ y ∈ S.holds.take (i + 1), y.dot = x) fun x _ => (hex x).symm)
          have HSP8 := Lib.hid (HSP.out.trans ((Spares.of_below hb7 hs7).trans ⟨hg8.os, hg8.tape, hg8.output, hg8.size, fun i hi hne => hg8.block i (by omega) (fun e => hne (Option.some.inj e))⟩))
          clear hsl hp hp2 hin hmy hno hex hb7 hr7 hmk8 hg8 hr8 hk8 HMH HSP
          go_wp2_with fail
          go_roundg (pN.length - (i + 1))
          case measure => omega
          case rel => exact ⟨i + 1, by go_num, by omega, Nat.le_refl _, HMH8.out, HSP8.out⟩
        · have hltz : ¬ (i : Int) < (pN.length : Int) := by omega
          obtain rfl : i = pN.length := by omega
          have hk7 : ∀ i, i < V → wr.heap[i]? = w6.heap[i]? := fun i hi => HSP.out.block i (by omega) (by omega)
          have hbk := HBK.out wr (by omega) fun i hi => (hk7 i hi).trans (HK6.out i hi)
          have hsn := seen_any bb ms mh B S HF.out.ok wr hbk
          have HSN := Lib.hid hsn
          have HMK7 := Lib.hid (HMK6.out.keep (hk7 _ (by omega)))
          have HMH7 := Lib.hid (HMH.out.same (ds' := fun x => ∃ y ∈ S.holds, y.dot = x) fun x _ => by
            have h1 := congrArg List.length HPN.out
            rw [List.length_map] at h1
            rw [h1, List.take_length])
          have HB7 : Hid (Below w.heap.size w wr) := HB6.out.trans ⟨HSP.out.os, HSP.out.tape, HSP.out.output, HSP.out.size, fun i hi => HSP.out.block i (by have := HB6.out.size; omega) (by omega)⟩
          have hV7 := HMH.out.lt
          clear hk7 hbk hsn HMH HSP HMK6 HMH6 HB6 HK6 HA6 HBK
          go_wp2_with fail
          refine HSN.out.mono ?_
          rintro e w8 ⟨⟨o8, n8, q8⟩, t8, rfl, hcl, hown8, hb8⟩
          obtain rfl : n8 = t8.more.length := hdrs_len (o := o8) (c := q8) hown8
          have hz8 := hb8.size
          have hml : t8.more.length ≤ 1000000 := by
            have h := (hcl.right HF.out.ok).2.1
            omega
          have hli := list2_any' o8 q8 t8 w8 hown8.at hml
          obtain ⟨D, hD⟩ : ∃ D, dotsOf t8.grid = D := ⟨_, rfl⟩
          have hDm : ∀ d, d ∈ D ↔ May d ∧ S.saw d.node.toNat d.seq.toNat = true := fun d => by rw [← hD, hcl.grid HF.out.ok]; exact mem_dotsOf HF.out.ok
          have hDl : D.length ≤ 768 := by rw [← hD]; exact dotsOf_len t8.grid_ok
          rw [hD] at hli
          have HLI := Lib.hid hli
          have HDM := Lib.hid hDm
          have HMK8 := Lib.hid (HMK7.out.keep (hb8.block _ (by omega)))
          have HMH8 := Lib.hid (HMH7.out.keep (hb8.block _ (by omega)))
          have HB8 := Lib.hid (HB7.out.trans (hb8.mono HB7.out.size))
          have hq8 : (qcells (⟨o8, t8.more.length, q8⟩, t8)).toArray = #[.int .i64 (t8.u 0), .int .i64 (t8.u 1), .int .i64 (t8.u 2), .int .i64 (t8.u 3), .int .i64 (t8.u 4), .int .i64 (t8.u 5), .int .i64 (t8.u 6), .int .i64 (t8.u 7), .slice o8 t8.more.length q8] := rfl
          rw [hq8]
          clear hcl hown8 hb8 hml hli hD hDm hq8 HSN HMK7 HMH7 HB7
          go_wp2_with fail
          refine HLI.out.mono ?_
          rintro e w9 ⟨o9, n9, q9, rfl, hown9, hb9⟩
          obtain rfl : n9 = D.length := hdrs_len hown9
          have hz9 := hb9.size
          have HO9 := Lib.hid hown9
          have HMK9 := Lib.hid (HMK8.out.keep (hb9.block _ (by omega)))
          have HMH9 := Lib.hid (HMH8.out.keep (hb9.block _ (by omega)))
          have HB9 := Lib.hid (HB8.out.trans (hb9.mono HB8.out.size))
          clear hown9 hb9 HLI HMK8 HMH8 HB8
          go_wp2_with fail
          go_loopg [75] D.length (fun gk s75 wr => ∃ (i : Nat), s75 = .int .i64 i ∧ i ≤ D.length ∧ D.length - i ≤ gk ∧ Hid (Below w9.heap.size w9 wr))
          case atStart => exact ⟨0, rfl, Nat.zero_le _, Nat.le_refl _, Below.refl _ _⟩
          case round =>
            obtain ⟨i, rfl, hi, hg, HB⟩ := hrel
            by_cases hlt : i < D.length
            · have hltz : (i : Int) < (D.length : Int) := by omega
              have hsl2 := (HO9.out.below HB.out (Nat.le_refl _)).at
              obtain ⟨b2, off2, rfl⟩ := hsl2.plain Dot.cells_len (by decide) (by intro e; rw [e] at hlt; exact absurd hlt (by simp))
              have g0 := hsl2.cell Dot.cells_len (i := i) (c := 0) hlt (by decide)
              have g1 := hsl2.cell Dot.cells_len (i := i) (c := 1) hlt (by decide)
              simp only [Dot.cells, List.getElem?_cons_zero, List.getElem?_cons_succ] at g0 g1
              rw [show off2 + (i * 2 + 0) = off2 + i * 2 by omega] at g0
              rw [show off2 + (i * 2 + 1) = off2 + i * 2 + 1 by omega] at g1
              obtain ⟨hmy, hsee⟩ := (HDM.out D[i]).1 (List.getElem_mem hlt)
              generalize D[i] = d at *
              have hb10 := (Below.refl wr.heap.size wr).alloc (Nat.le_refl _) (.cells #[.int .i64 d.node, .int .i64 d.seq] 28)
              have hr10 : (wr.alloc (.cells #[.int .i64 d.node, .int .i64 d.seq] 28)).drew.heap[wr.heap.size]? = some (.cells #[.int .i64 d.node, .int .i64 d.seq] 28) := heap_alloc_new wr _
              have d0 := cell_of_row _ wr.heap.size 0 _ _ _ hr10
              have d1 := cell_of_row _ wr.heap.size 1 _ _ _ hr10
              have hs9 := HB.out.size
              have hkk : ∀ i, i < w9.heap.size → (wr.alloc (.cells #[.int .i64 d.node, .int .i64 d.seq] 28)).drew.heap[i]? = w9.heap[i]? := fun i hi => (hb10.block i (by omega)).trans (HB.out.block i hi)
              have hone := (HGS.out.saw d hmy).1 hsee
              obtain ⟨a, c, ha, hc, hac⟩ : ∃ a c : Bool, (a = true ↔ ∃ y ∈ S.holds, y.dot = d) ∧ (c = true ↔ R d) ∧ (a == c) = false := by
                by_cases hR : R d
                · refine ⟨false, true, ⟨(fun h => nomatch h), fun ⟨y, hy, he⟩ => ?_⟩, ⟨fun _ => hR, fun _ => rfl⟩, rfl⟩
                  exact absurd (by rw [he]; exact hR) (HGS.out.none y hy)
                · exact ⟨true, false, ⟨fun _ => by obtain ⟨y, hy, he⟩ := hone.resolve_right hR; exact ⟨y, hy, he⟩, fun _ => rfl⟩, ⟨(fun h => nomatch h), fun h => absurd h hR⟩, rfl⟩
              have hl1 := (HMH9.out.keep (hkk _ (by omega))).look hmy a ha
              have hl2 := (HMK9.out.keep (hkk _ (by omega))).look hmy c hc
              unfold dotVal at hl1 hl2
              have HB10 := Lib.hid (below_drew (HB.out.trans (hb10.mono hs9)))
              clear hsl2 hmy hsee hb10 hr10 hkk hone ha hc HB
              go_wp2_with fail
              generalize wr.alloc (.cells #[.int .i64 d.node, .int .i64 d.seq] 28) = wb at *
              go_region_law (fail)
              all_goals
                go_wp2_with fail
                go_roundg (D.length - (i + 1))
                case measure => omega
                case rel => exact ⟨i + 1, by go_num, by omega, Nat.le_refl _, HB10.out⟩
            · have hltz : ¬ (i : Int) < (D.length : Int) := by omega
              obtain rfl : i = D.length := by omega
              have HBZ := Lib.hid (HB9.out.trans (HB.out.mono HB9.out.size))
              go_wp2_with fail
              go_ret
              exact ⟨rfl, HBZ.out⟩
end Go.Proofs.Ytidiapgdgoeplaa
