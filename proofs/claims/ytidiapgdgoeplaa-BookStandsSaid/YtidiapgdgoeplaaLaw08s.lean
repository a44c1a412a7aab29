/-
  The law BookStands walked: it returns true, and turns nothing that was there.
-/
import Derived.Test.YtidiapgdgoeplaaAlive08
import Derived.Test.YtidiapgdgoeplaaLaw08
import Derived.Test.YtidiapgdgoeplaaHas
import Derived.Test.YtidiapgdgoeplaaOpenEv
namespace Go.Proofs.Ytidiapgdgoeplaa
open Go.Shelf Go.RowKit Go.Lib Go.Sort
set_option linter.unusedVariables false
theorem hdrs_len {α : Type} {enc : α → List Value} {k base e : Nat} {w : World} {o : Option Addr} {n c : Nat} {l : List α} (h : Owns enc k base e w (.slice o n c) l) : n = l.length := by
  obtain ⟨_, _, hv, _⟩ := h.at.slice_of
  simp only [Value.slice.injEq] at hv
  exact hv.2.1
def cntE (p : Ev → Bool) (l : List Ev) (i : Nat) : Nat := ((l.take i).filter p).length
theorem cntE_zero (p : Ev → Bool) (l : List Ev) : cntE p l 0 = 0 := by simp [cntE]
theorem cntE_all (p : Ev → Bool) (l : List Ev) {i : Nat} (h : l.length ≤ i) : cntE p l i = (l.filter p).length := by unfold cntE; rw [List.take_of_length_le h]
theorem cntE_le (p : Ev → Bool) (l : List Ev) (i : Nat) : cntE p l i ≤ i := by
  have h := List.length_filter_le p (l.take i)
  rw [List.length_take] at h
  unfold cntE
  omega
theorem cntE_step (p : Ev → Bool) {l : List Ev} {i : Nat} {e : Ev} (h : l[i]? = some e) : cntE p l (i + 1) = cntE p l i + (if p e then 1 else 0) := by
  obtain ⟨hi, he⟩ := List.getElem?_eq_some_iff.1 h
  unfold cntE
  rw [List.take_succ_eq_append_getElem hi, he, List.filter_append, List.length_append]
  cases hp : p e <;> simp [hp]
def isK (e : Ev) : Bool := decide (e.kind = 1)
def isN (work : Int) (e : Ev) : Bool := decide (e.kind ≠ 1 ∧ e.work = work)
theorem Owns.turns {α : Type} {enc : α → List Value} {k base e a b c : Nat} {w w' : World} {v : Value} {l : List α} (h : Owns enc k base e w v l) (ht : Turns3 a b c w w') (ha : a < base) (hb : b < base) (hc : c < base) : Owns enc k base e w' v l :=
  h.keep fun g hg => by
    have h1 := h.lt g hg
    exact ht.block g h1.2 (by omega) (by omega) (by omega)
def CutAtX {α : Type} (b : α → Act) (F : α → World → Prop) : Exit → Act → World → Prop
  | .normal, a, w => ∃ x, a = b x ∧ F x w
  | _, _, _ => False
theorem wp_cutX {α : Type} {P : Program} {c : Code} {Q : Exit → Act → World → Prop} {a : Act} {w : World} (A : α → Act → Act) (F : α → World → Prop) (h1 : c.wp P (CutAtX (fun x => A x a) F) a w) (h2 : ∀ x w', F x w' → Q .normal (A x a) w') : c.wp P Q a w :=
  Code.wp_mono (fun e a' w' h => by
    cases e with
    | normal => obtain ⟨x, rfl, h⟩ := h; exact h2 x w' h
    | _ => exact h.elim) h1
set_option maxRecDepth 100000 in
set_option maxHeartbeats 8000000 in
theorem lawStands (oa : Option Addr) (cap : Nat) (ps : List PEv) (work : Int) (w : World) (h : EvsAt w (.slice oa ps.length cap) ps) (hl : ps.length ≤ 1099511627776) (hf : ∀ p ∈ ps, p.2.fits) :
    Calls Try.prog 3 #[.slice oa ps.length cap, .int .i64 work] w fun e w' => e = .returned (.bool true) ∧ RowKit.Below w.heap.size w w' := by
  have AL := Lib.hid alive08_any
  have hgr := fun W (hE : EvsAt W (.slice oa ps.length cap) ps) => great_any oa cap ps W hE hl (fun p hp => (hf p hp).2.2.2.2.2.2.2)
  have HGR := Lib.hid hgr
  have HE := Lib.hid h
  clear h hgr hf
  go_enter Try.func3, Try.ntmps3
  go_wp2_with fail
  refine (AL.out _).mono ?_
  rintro e w1 ⟨rfl, hb1⟩
  have HB1 := Lib.hid hb1
  have hz1 := hb1.size
  clear hb1 AL
  by_cases h60 : (100 : Int) < (ps.length : Int)
  · go_wp2_with fail
    go_ret
    exact ⟨rfl, HB1.out⟩
  go_wp2_with fail
  refine (HGR.out _ (HE.out.below HB1.out (Nat.le_refl _))).mono ?_
  rintro e w2 ⟨rfl, hb2⟩
  have HB2 := Lib.hid (HB1.out.trans (hb2.mono HB1.out.size))
  have hz2 := hb2.size
  clear hb2 HB1 HGR
  by_cases hbk : 3000 < bulk (ps.map (·.2))
  · rw [decide_eq_true hbk]
    go_wp2_with fail
    go_ret
    exact ⟨rfl, HB2.out⟩
  rw [decide_eq_false hbk]
  have HREM : Hid (∀ p ∈ ps, p.2.rem.length ≤ 1000000) := fun p hp => by
    have := bulk_mem (ps.map (·.2)) p.2 (List.mem_map_of_mem hp)
    omega
  clear hbk
  by_cases hw0 : work < 0
  · go_wp2_with fail
    go_ret
    exact ⟨rfl, HB2.out⟩
  by_cases hw8 : 8 ≤ work
  · go_wp2_with fail
    go_ret
    exact ⟨rfl, HB2.out⟩
  have hw0' : 0 ≤ work := by omega
  have hw8' : work < 8 := by omega
  go_wp2_with fail
  refine (bookNew_any w2).mono ?_
  rintro e w3 ⟨bb, ms, mh, B, rfl, hbk3, hb3, l1, l2, l3⟩
  have HRUN3 : Hid (BookRun w2 bb ms mh B BookS.new w3) := ⟨hbk3, fine_new, hb3, l1, l2, l3⟩
  clear hbk3 hb3
  go_wp2_with fail
  go_loopg [38] ps.length (fun gk s38 wr => ∃ (i : Nat), s38 = .int .i64 i ∧ i ≤ ps.length ∧ ps.length - i ≤ gk ∧ Hid (BookRun w2 bb ms mh B (addsB BookS.new ((ps.take i).map (·.2))) wr))
  case atStart => exact ⟨0, rfl, Nat.zero_le _, Nat.le_refl _, by show BookRun _ _ _ _ _ _ _; rw [addsB_zero]; exact HRUN3.out⟩
  case round =>
    obtain ⟨i, rfl, hi, hg, HRUN⟩ := hrel
    by_cases hlt : i < ps.length
    · have hltz : (i : Int) < (ps.length : Int) := by omega
      have hbw := HB2.out.trans (HRUN.out.below.mono HB2.out.size)
      have hsl : SlAt pcells wr (.slice oa ps.length cap) ps := HE.out.1.below pcells_len (by decide) hbw (Nat.le_refl _)
      obtain ⟨b, off, rfl⟩ := slAt_some hsl i hlt
      obtain ⟨ra, rn, rc, ev, hp, c0, c1, c2, c3, c4, c5, c6, c7, c8, c9, c10, c11, c12, c13⟩ := hsl.ev i hlt
      have hmem : (⟨⟨ra, rn, rc⟩, ev⟩ : PEv) ∈ ps := List.mem_of_getElem? hp
      have hadd := fun W hW => HRUN.out.add (W := W) hW ⟨ra, rn, rc⟩ ev ((HE.out.2 _ hmem).below Dot.cells_len (by decide) HB2.out (Nat.le_refl _)) (HREM.out _ hmem)
      have htk := addsB_take hp BookS.new
      simp only at htk
      have HADD := Lib.hid hadd
      have HTK := Lib.hid htk
      clear hsl hp hmem hadd htk hbw
      go_wp2_with fail
      refine (HADD.out _ ((Below.refl _ _).alloc (Nat.le_refl _) _)).mono ?_
      rintro e w4 ⟨rfl, hrun⟩
      have HRUN4 := Lib.hid hrun
      clear hrun HADD c0 c1 c2 c3 c4 c5 c6 c7 c8 c9 c10 c11 c12 c13
      go_wp2_with fail
      go_roundg (ps.length - (i + 1))
      case measure => omega
      case rel => exact ⟨i + 1, by go_num, by omega, Nat.le_refl _, by show BookRun _ _ _ _ _ _ _; rw [HTK.out]; exact HRUN4.out⟩
    · have hltz : ¬ (i : Int) < (ps.length : Int) := by omega
      obtain rfl : i = ps.length := by omega
      have hrun := HRUN.out
      rw [List.take_length] at hrun
      obtain ⟨S, hS⟩ : ∃ S, addsB BookS.new (ps.map (·.2)) = S := ⟨_, rfl⟩
      rw [hS] at hrun
      have HF := Lib.hid hrun.fine
      have hz5 := hrun.below.size
      have hbB := hrun.book.ltb
      have hsB := hrun.book.lts
      have hhB := hrun.book.lth
      have hBz := hrun.book.size
      have HBK5 := Lib.hid hrun.book
      have HB5 := Lib.hid (HB2.out.trans (hrun.below.mono HB2.out.size))
      have hev := events_any bb ms mh B S wr hrun.book hrun.fine.by' (fine_rems hrun.fine)
      have HEV := Lib.hid hev
      clear hrun hev HRUN3 HRUN hS HREM HE HB2
      go_wp2_with fail
      refine HEV.out.mono ?_
      rintro e w6 ⟨⟨oW, nW, qW⟩, pW, rfl, hpW, haccW, hb6⟩
      obtain rfl : nW = pW.length := hdrs_len (o := oW) (c := qW) haccW.row
      have hz6 := hb6.size
      have HBK6 := Lib.hid (HBK5.out.below hb6 (Nat.le_refl _))
      have HB6 := Lib.hid (HB5.out.trans (hb6.mono HB5.out.size))
      have hst := stands_any bb ms mh B S work w6 HBK6.out HF.out
      have HST := Lib.hid hst
      have HA6 := Lib.hid haccW
      have HPW := Lib.hid hpW
      clear hst haccW hb6 hpW HEV HBK5 HB5
      simp only [Hdr.val]
      go_wp2_with fail
      refine HST.out.mono ?_
      rintro e w7 ⟨⟨oS, nS, qS⟩, rfl, hown7, hb7⟩
      obtain rfl : nS = (standsB S work).1.length := hdrs_len (o := oS) (c := qS) hown7
      have hz7 := hb7.size
      have HB7 := Lib.hid (HB6.out.trans (hb7.mono HB6.out.size))
      have HBK7 := Lib.hid (HBK6.out.below hb7 (Nat.le_refl _))
      have HO7 := Lib.hid hown7
      have HA7 := Lib.hid (HA6.out.below hb7 (Nat.le_refl _))
      clear hown7 hb7 HST HB6 HBK6 HA6
      simp only [Hdr.val]
      by_cases hbig : 96 < (dotsOf (dotsGrid (standsL S work))).length
      · have hsb := standsB_big rfl hbig
        rw [hsb]
        clear hsb
        simp only [List.length_nil]
        go_wp2_with fail
        go_ret
        exact ⟨rfl, HB7.out⟩
      · obtain ⟨r, hr⟩ : ∃ r, dotsOf (dotsGrid (standsL S work)) = r := ⟨_, rfl⟩
        have hsb : standsB S work = (r, 0) := by rw [standsB_small rfl hbig, hr]
        rw [hr] at hbig
        have HMR : Hid (∀ d, d ∈ r ↔ May d ∧ d ∈ standsL S work) := fun d => by rw [← hr]; exact mem_dotsGrid
        have HSR : Hid (r.Pairwise Before) := by rw [← hr]; exact dotsTo_sorted _ 784
        rw [hsb] at HO7 ⊢
        simp only at HO7 ⊢
        have hr96 : r.length ≤ 96 := by omega
        clear hsb hr hbig
        have hb8 := (Below.refl w7.heap.size w7).alloc (Nat.le_refl _) (.cells #[.int .i64 7, .int .i64 96] 28)
        have hd8 : (w7.alloc (.cells #[.int .i64 7, .int .i64 96] 28)).heap[w7.heap.size]? = some (.cells #[.int .i64 7, .int .i64 96] 28) := heap_alloc_new w7 _
        have hz8 : (w7.alloc (.cells #[.int .i64 7, .int .i64 96] 28)).heap.size = w7.heap.size + 1 := World.size_alloc _ _
        have HB8 := Lib.hid (HB7.out.trans (hb8.mono HB7.out.size))
        have HBK8 := Lib.hid (HBK7.out.below hb8 (Nat.le_refl _))
        have HO8 := Lib.hid (HO7.out.below hb8 (Nat.le_refl _))
        have HA8 := Lib.hid (HA7.out.row.below hb8 (Nat.le_refl _))
        have HD8 := Lib.hid hd8
        clear hb8 hd8 HB7 HBK7 HO7 HA7
        go_wp2_with fail
        generalize w7.alloc (.cells #[.int .i64 7, .int .i64 96] 28) = w8 at *
        have hsn := seen_any bb ms mh B S HF.out.ok w8.drew (HBK8.out.below (below_drew (Below.refl _ _)) (Nat.le_refl _))
        have HSN := Lib.hid hsn
        have a0 : w8.drew.cell? ⟨w7.heap.size, 0, none⟩ = some (.int .i64 7) := cell_of_row w8.drew _ 0 _ _ _ HD8.out
        have a1 : w8.drew.cell? ⟨w7.heap.size, 1, none⟩ = some (.int .i64 96) := cell_of_row w8.drew _ 1 _ _ _ HD8.out
        clear hsn
        refine wp_cutX (fun (x : Value) a => (((a.put (some 64) (.pointer (some ⟨bb, 0, none⟩))).put (some 65) x).put (some 66) (.agg #[.int .i64 7, .int .i64 96])).put (some 67) (.bool (S.saw 7 96))) (fun _ w' => Below w8.heap.size w8 w') ?_ ?_
        next =>
          go_region_law (first
            | (go_simp
               refine HSN.out.mono ?_
               rintro e w9 ⟨⟨o9, n9, q9⟩, t9, rfl, hcl, hown9, hb9⟩
               have hz9 : w8.heap.size ≤ w9.heap.size := hb9.size
               obtain rfl : n9 = t9.more.length := hdrs_len (o := o9) (c := q9) hown9
               have hml : t9.more.length ≤ 1000000 := by
                 have h := (hcl.right HF.out.ok).2.1
                 omega
               have hhs := has_any o9 q9 t9 ⟨7, 96⟩ may796 w9 hown9.at hml
               rw [hcl.grid HF.out.ok] at hhs
               have HHS := Lib.hid hhs
               have b9 := (hb9.block w7.heap.size (by show _ < w8.heap.size; omega)).trans HD8.out
               have b0 : w9.cell? ⟨w7.heap.size, 0, none⟩ = some (.int .i64 7) := cell_of_row w9 _ 0 _ _ _ b9
               have b1 : w9.cell? ⟨w7.heap.size, 1, none⟩ = some (.int .i64 96) := cell_of_row w9 _ 1 _ _ _ b9
               have hq9 : (qcells (⟨o9, t9.more.length, q9⟩, t9)).toArray = #[.int .i64 (t9.u 0), .int .i64 (t9.u 1), .int .i64 (t9.u 2), .int .i64 (t9.u 3), .int .i64 (t9.u 4), .int .i64 (t9.u 5), .int .i64 (t9.u 6), .int .i64 (t9.u 7), .slice o9 t9.more.length q9] := rfl
               rw [hq9]
               have HB9 := Lib.hid (show Below w8.heap.size w8 w9 from (below_drew (Below.refl _ _)).trans hb9)
               clear hcl hown9 hb9 hml hhs b9 hq9 HSN)
            | (go_simp
               refine HHS.out.mono ?_
               rintro e w10 ⟨rfl, hb10⟩
               have HB10 := Lib.hid (HB9.out.trans (hb10.mono hz9))
               clear hb10 HHS))
          all_goals
            exact ⟨.agg #[.int .i64 (t9.u 0), .int .i64 (t9.u 1), .int .i64 (t9.u 2), .int .i64 (t9.u 3), .int .i64 (t9.u 4), .int .i64 (t9.u 5), .int .i64 (t9.u 6), .int .i64 (t9.u 7), .slice o9 t9.more.length q9], by kernel_rfl, HB10.out⟩
        rintro x w10 hb10
        have hz10 := hb10.size
        have d10 := (hb10.block w7.heap.size (by omega)).trans HD8.out
        have d0 : w10.cell? ⟨w7.heap.size, 0, none⟩ = some (.int .i64 7) := cell_of_row w10 _ 0 _ _ _ d10
        have d1 : w10.cell? ⟨w7.heap.size, 1, none⟩ = some (.int .i64 96) := cell_of_row w10 _ 1 _ _ _ d10
        have HB10 := Lib.hid (HB8.out.trans (hb10.mono HB8.out.size))
        have HBK10 := Lib.hid (HBK8.out.below hb10 (Nat.le_refl _))
        have HO10 := Lib.hid (HO8.out.below hb10 (Nat.le_refl _))
        have HA10 := Lib.hid (HA8.out.below hb10 (Nat.le_refl _))
        clear hb10 d10 HB8 HBK8 HO8 HA8 HD8 HSN a0 a1
        simp only [Act.put, List.setIfInBounds_toArray, List.set_cons_succ, List.set_cons_zero]
        cases hsee : S.saw 7 96 with
        | true =>
          clear hsee
          go_wp2_with fail
          go_ret
          exact ⟨rfl, HB10.out⟩
        | false =>
          have hsee' : S.sees ⟨7, 96⟩ = false := hsee
          have hrt := stands_right HF.out work hw0' hw8' hsee' r HMR.out HSR.out hr96
          have hal := stands_alone HF.out work hw0' hw8' hsee' r HMR.out HSR.out hr96 (takeB S (lastEv work r)) rfl
          have hadd := bookAdd_any bb ms mh B S ⟨oS, r.length, qS⟩ (lastEv work r) w10 HBK10.out HO10.out.at (by show r.length ≤ _; omega) (.inr fun b hb => by have := (HO10.out.lt b hb).1; omega) (by have := HF.out.t0; have := HF.out.t1; omega)
          have hres : addB S (lastEv work r) = (0, takeB S (lastEv work r)) := by
            unfold addB
            rw [if_pos hrt, if_neg (show ¬ S.sees (lastEv work r).dot = true by rw [show S.sees (lastEv work r).dot = false from hsee']; exact Bool.false_ne_true)]
          simp only [hres] at hadd
          obtain ⟨T, hT⟩ : ∃ T, takeB S (lastEv work r) = T := ⟨_, rfl⟩
          rw [hT] at hal hadd
          have HADD := Lib.hid hadd
          have HAL := Lib.hid hal
          clear hsee hsee' hrt hal hadd hres hT HMR HSR
          go_wp2_with fail
          refine HADD.out.mono ?_
          rintro e w11 ⟨rfl, hbk11, ht11⟩
          have hz11 := ht11.size
          have HBK11 := Lib.hid hbk11
          have HA11 := Lib.hid (HA10.out.turns ht11 (by omega) (by omega) (by omega))
          have HB11 := Lib.hid (HB10.out.trans (ht11.below (C := w.heap.size) (by omega) (by omega) (by omega) HB10.out.size))
          clear hbk11 ht11 HADD HBK10 HO10 HA10 HB10 d0 d1
          go_wp2_with fail
          have hpl : pW.length ≤ 768 := by
            have h1 := congrArg List.length HPW.out
            rw [List.length_map] at h1
            have := held_len HF.out.by' (fun e he => (HF.out.right e he).1)
            omega
          go_loopg [9, 77] pW.length (fun gk s9 s77 wr => ∃ (i : Nat) (z : Int), s77 = .int .i64 i ∧ s9 = .int .i64 z ∧ z = (cntE isK (pW.map (·.2)) i : Int) ∧ i ≤ pW.length ∧ pW.length - i ≤ gk ∧ Hid (Below w11.heap.size w11 wr))
          case atStart => exact ⟨0, 0, rfl, rfl, by rw [cntE_zero]; rfl, Nat.zero_le _, Nat.le_refl _, Below.refl _ _⟩
          case round =>
            obtain ⟨i, z, rfl, rfl, hz, hi, hg, HB⟩ := hrel
            by_cases hlt : i < pW.length
            · have hltz : (i : Int) < (pW.length : Int) := by omega
              have hsl := (HA11.out.below HB.out (Nat.le_refl _)).at
              obtain ⟨b, off, rfl⟩ := slAt_some hsl i hlt
              obtain ⟨ra, rn, rc, ev, hp, c0, c1, c2, c3, c4, c5, c6, c7, c8, c9, c10, c11, c12, c13⟩ := hsl.ev i hlt
              have hp2 : (pW.map (·.2))[i]? = some ev := by rw [List.getElem?_map, hp]; rfl
              have hcs := cntE_step isK hp2
              have hcl := cntE_le isK (pW.map (·.2)) i
              have hr0 : (wr.alloc (.cells #[.int .i64 ev.dot.node, .int .i64 ev.dot.seq, .int .i64 ev.time, .int .i64 ev.kind, .int .i64 ev.work, .int .i64 ev.value, .int .i64 ev.pol.mn, .int .i64 ev.pol.mx, .int .i64 ev.pol.goal, .int .i64 ev.pol.slack, .int .i64 ev.pol.up, .int .i64 ev.pol.down, .int .i64 ev.pol.cool, .slice ra rn rc] 33)).heap[wr.heap.size]? = _ := heap_alloc_new wr _
              obtain ⟨_, _, _, e3, _⟩ := ev_row hr0
              have hzb : 0 ≤ z ∧ z ≤ 768 := by omega
              have hb1 := HB.out.alloc HB.out.size (.cells #[.int .i64 ev.dot.node, .int .i64 ev.dot.seq, .int .i64 ev.time, .int .i64 ev.kind, .int .i64 ev.work, .int .i64 ev.value, .int .i64 ev.pol.mn, .int .i64 ev.pol.mx, .int .i64 ev.pol.goal, .int .i64 ev.pol.slack, .int .i64 ev.pol.up, .int .i64 ev.pol.down, .int .i64 ev.pol.cool, .slice ra rn rc] 33)
              have HB1 := Lib.hid hb1
              have HCS := Lib.hid hcs
              have HZ := Lib.hid hz
              obtain ⟨hz1, hz2⟩ := hzb
              clear hsl hp hp2 hcs hcl hr0 hb1 hz HB
              by_cases hk : ev.kind = 1
              · have hkb : (ev.kind == 1) = true := by simpa using hk
                have HK := Lib.hid (show isK ev = true from decide_eq_true hk)
                clear hk
                go_wp2_with fail
                go_roundg (pW.length - (i + 1))
                case measure => omega
                case rel =>
                  refine ⟨i + 1, z + 1, by go_num, by go_num, ?_, by omega, Nat.le_refl _, HB1.out⟩
                  have h1 := HCS.out
                  rw [HK.out, if_pos rfl] at h1
                  have h2 := HZ.out
                  omega
              · have hkb : (ev.kind == 1) = false := by simpa using hk
                have HK := Lib.hid (show isK ev = false from decide_eq_false hk)
                clear hk
                go_wp2_with fail
                go_roundg (pW.length - (i + 1))
                case measure => omega
                case rel =>
                  refine ⟨i + 1, z, by go_num, rfl, ?_, by omega, Nat.le_refl _, HB1.out⟩
                  have h1 := HCS.out
                  rw [HK.out, if_neg (by simp)] at h1
                  have h2 := HZ.out
                  omega
            · have hltz : ¬ (i : Int) < (pW.length : Int) := by omega
              obtain rfl : i = pW.length := by omega
              rw [cntE_all isK _ (by rw [List.length_map]; exact Nat.le_refl _), HPW.out] at hz
              have hbk := HBK11.out.below HB.out (Nat.le_refl _)
              have hfT := HAL.out.2.2.2
              have hev := events_any bb ms mh B T wr hbk hfT.by' (fine_rems hfT)
              have HEV := Lib.hid hev
              have HBKT := Lib.hid hbk
              have HBT := Lib.hid (HB11.out.trans (HB.out.mono HB11.out.size))
              have hzp : 0 ≤ z ∧ z ≤ 768 := by
                have := List.length_filter_le isK S.holds
                have := held_len HF.out.by' (fun e he => (HF.out.right e he).1)
                omega
              have HZ := Lib.hid hz
              obtain ⟨hz1, hz2⟩ := hzp
              clear hbk hfT hev hz HB HBK11 HA11 HB11 HPW
              go_wp2_with fail
              refine HEV.out.mono ?_
              rintro e w12 ⟨⟨oN, nN, qN⟩, pN, rfl, hpN, haccN, hb12⟩
              obtain rfl : nN = pN.length := hdrs_len (o := oN) (c := qN) haccN.row
              have hz12 := hb12.size
              have HBK12 := Lib.hid (HBKT.out.below hb12 (Nat.le_refl _))
              have HB12 := Lib.hid (HBT.out.trans (hb12.mono HBT.out.size))
              have HA12 := Lib.hid haccN.row
              have HPN := Lib.hid hpN
              have hnl : pN.length ≤ 768 := by
                have h1 := congrArg List.length hpN
                rw [List.length_map] at h1
                have hfT := HAL.out.2.2.2
                have := held_len hfT.by' (fun e he => (hfT.right e he).1)
                omega
              clear haccN hb12 hpN HEV HBKT HBT
              simp only [Hdr.val]
              go_wp2_with fail
              go_loopg [9, 13, 90] pN.length (fun gk s9 s13 s90 wr => ∃ (i : Nat) (x y : Int), s90 = .int .i64 i ∧ s9 = .int .i64 x ∧ s13 = .int .i64 y ∧ x = z - (cntE isK (pN.map (·.2)) i : Int) ∧ y = (cntE (isN work) (pN.map (·.2)) i : Int) ∧ i ≤ pN.length ∧ pN.length - i ≤ gk ∧ Hid (Below w12.heap.size w12 wr))
              case atStart => exact ⟨0, z, 0, rfl, rfl, rfl, by rw [cntE_zero]; omega, by rw [cntE_zero]; rfl, Nat.zero_le _, Nat.le_refl _, Below.refl _ _⟩
              case round =>
                obtain ⟨i, x, y, rfl, rfl, rfl, hx, hy, hi, hg, HB⟩ := hrel
                by_cases hlt : i < pN.length
                · have hltz : (i : Int) < (pN.length : Int) := by omega
                  have hsl := (HA12.out.below HB.out (Nat.le_refl _)).at
                  obtain ⟨b, off, rfl⟩ := slAt_some hsl i hlt
                  obtain ⟨ra, rn, rc, ev, hp, c0, c1, c2, c3, c4, c5, c6, c7, c8, c9, c10, c11, c12, c13⟩ := hsl.ev i hlt
                  have hp2 : (pN.map (·.2))[i]? = some ev := by rw [List.getElem?_map, hp]; rfl
                  have hcs := cntE_step isK hp2
                  have hcn := cntE_step (isN work) hp2
                  have hcl := cntE_le isK (pN.map (·.2)) i
                  have hcm := cntE_le (isN work) (pN.map (·.2)) i
                  have hr0 : (wr.alloc (.cells #[.int .i64 ev.dot.node, .int .i64 ev.dot.seq, .int .i64 ev.time, .int .i64 ev.kind, .int .i64 ev.work, .int .i64 ev.value, .int .i64 ev.pol.mn, .int .i64 ev.pol.mx, .int .i64 ev.pol.goal, .int .i64 ev.pol.slack, .int .i64 ev.pol.up, .int .i64 ev.pol.down, .int .i64 ev.pol.cool, .slice ra rn rc] 33)).heap[wr.heap.size]? = _ := heap_alloc_new wr _
                  obtain ⟨_, _, _, e3, e4, _⟩ := ev_row hr0
                  have hxb : -768 ≤ x ∧ x ≤ 768 ∧ 0 ≤ y ∧ y ≤ 768 := by omega
                  have hb1 := HB.out.alloc HB.out.size (.cells #[.int .i64 ev.dot.node, .int .i64 ev.dot.seq, .int .i64 ev.time, .int .i64 ev.kind, .int .i64 ev.work, .int .i64 ev.value, .int .i64 ev.pol.mn, .int .i64 ev.pol.mx, .int .i64 ev.pol.goal, .int .i64 ev.pol.slack, .int .i64 ev.pol.up, .int .i64 ev.pol.down, .int .i64 ev.pol.cool, .slice ra rn rc] 33)
                  have HB1 := Lib.hid hb1
                  have HCS := Lib.hid hcs
                  have HCN := Lib.hid hcn
                  have HX := Lib.hid hx
                  have HY := Lib.hid hy
                  obtain ⟨hx1, hx2, hy1, hy2⟩ := hxb
                  clear hsl hp hp2 hcs hcn hcl hcm hr0 hb1 hx hy HB
                  by_cases hk : ev.kind = 1
                  · have hkb : (ev.kind == 1) = true := by simpa using hk
                    have HK := Lib.hid (show isK ev = true from decide_eq_true hk)
                    have HN := Lib.hid (show isN work ev = false from decide_eq_false fun h => h.1 hk)
                    clear hk
                    go_wp2_with fail
                    go_roundg (pN.length - (i + 1))
                    case measure => omega
                    case rel =>
                      have h1 := HCS.out
                      have h3 := HCN.out
                      rw [HK.out, if_pos rfl] at h1
                      rw [HN.out, if_neg (by simp)] at h3
                      have h2 := HX.out
                      have h4 := HY.out
                      exact ⟨i + 1, x - 1, y, by go_num, by go_num, rfl, by omega, by omega, by omega, Nat.le_refl _, HB1.out⟩
                  · have hkb : (ev.kind == 1) = false := by simpa using hk
                    have HK := Lib.hid (show isK ev = false from decide_eq_false hk)
                    by_cases hw : ev.work = work
                    · have hwb : (ev.work == work) = true := by simpa using hw
                      have HN := Lib.hid (show isN work ev = true from decide_eq_true ⟨hk, hw⟩)
                      clear hk hw
                      go_wp2_with fail
                      go_roundg (pN.length - (i + 1))
                      case measure => omega
                      case rel =>
                        have h1 := HCS.out
                        have h3 := HCN.out
                        rw [HK.out, if_neg (by simp)] at h1
                        rw [HN.out, if_pos rfl] at h3
                        have h2 := HX.out
                        have h4 := HY.out
                        exact ⟨i + 1, x, y + 1, by go_num, rfl, by go_num, by omega, by omega, by omega, Nat.le_refl _, HB1.out⟩
                    · have hwb : (ev.work == work) = false := by simpa using hw
                      have HN := Lib.hid (show isN work ev = false from decide_eq_false fun h => hw h.2)
                      clear hk hw
                      go_wp2_with fail
                      go_roundg (pN.length - (i + 1))
                      case measure => omega
                      case rel =>
                        have h1 := HCS.out
                        have h3 := HCN.out
                        rw [HK.out, if_neg (by simp)] at h1
                        rw [HN.out, if_neg (by simp)] at h3
                        have h2 := HX.out
                        have h4 := HY.out
                        exact ⟨i + 1, x, y, by go_num, rfl, rfl, by omega, by omega, by omega, Nat.le_refl _, HB1.out⟩
                · have hltz : ¬ (i : Int) < (pN.length : Int) := by omega
                  obtain rfl : i = pN.length := by omega
                  rw [cntE_all _ _ (by rw [List.length_map]; exact Nat.le_refl _), HPN.out] at hx hy
                  obtain ⟨h1, h2, h3, _⟩ := HAL.out
                  have hx0 : 0 ≤ x := by
                    have h4 : (T.holds.filter isK).length ≤ (S.holds.filter isK).length := h2
                    have := HZ.out
                    omega
                  obtain rfl : y = 1 := by
                    have h4 : (T.holds.filter (isN work)).length = 1 := h1
                    omega
                  have hck := clock_any bb ms mh B T wr (HBK12.out.below HB.out (Nat.le_refl _))
                  rw [h3] at hck
                  have HCK := Lib.hid hck
                  have HBZ := Lib.hid (HB12.out.trans (HB.out.mono HB12.out.size))
                  clear hck h1 h2 h3 hx hy HB HB12 HBK12 HA12
                  go_wp2_with fail
                  refine HCK.out.mono ?_
                  rintro e w13 ⟨rfl, hb13⟩
                  have HB13 := Lib.hid (HBZ.out.trans (hb13.mono HBZ.out.size))
                  clear hb13 HCK
                  go_wp2_with fail
                  go_ret
                  exact ⟨rfl, HB13.out⟩
end Go.Proofs.Ytidiapgdgoeplaa
