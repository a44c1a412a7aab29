/-
  The law BookNewer walked: it returns true, and turns nothing that was there.
-/
import Derived.Test.YtidiapgdgoeplaaAlive08
import Derived.Test.YtidiapgdgoeplaaLaw08
import Derived.Test.YtidiapgdgoeplaaSetTo
import Derived.Test.YtidiapgdgoeplaaBookNewer
import Derived.Test.YtidiapgdgoeplaaAll07
import Derived.Test.YtidiapgdgoeplaaOpenEv
import Derived.Test.YtidiapgdgoeplaaPieceP
namespace Go.Proofs.Ytidiapgdgoeplaa
open Go.Shelf Go.RowKit Go.Lib Go.Sort
set_option linter.unusedVariables false
theorem hdr_len {α : Type} {enc : α → List Value} {k base e : Nat} {w : World} {o : Option Addr} {n c : Nat} {l : List α} (h : Owns enc k base e w (.slice o n c) l) : n = l.length := by
  obtain ⟨_, _, hv, _⟩ := h.at.slice_of
  simp only [Value.slice.injEq] at hv
  exact hv.2.1
theorem Spares.set {kb B : Nat} {w W W' : World} (h : Spares kb B w W) (hg : W.grownBy W' (some kb)) (hB : B ≤ W.heap.size) : Spares kb B w W' :=
  h.trans ⟨hg.os, hg.tape, hg.output, hg.size, fun i hi hne => hg.block i (by omega) (fun e => hne (Option.some.inj e))⟩
theorem Owns.after {α : Type} {enc : α → List Value} {k base e kb B : Nat} {w w' : World} {v : Value} {l : List α} (h : Owns enc k base e w v l) (hs : Spares kb B w w') (hB : w.heap.size ≤ B) (hk : ∀ b, v.ownBlock = some b → b ≠ kb) : Owns enc k base e w' v l :=
  h.keep fun g hg => hs.block g (by have := (h.lt g hg).2; omega) (hk g hg)
theorem Acc.after {B0 e ed kb B : Nat} {w w' : World} {v : Value} {qs : List PEv} (h : Acc B0 e ed w v qs) (hs : Spares kb B w w') (hB : w.heap.size ≤ B) (hk : kb < B0) : Acc B0 e ed w' v qs :=
  ⟨h.row.after hs hB fun b hb => by have := (h.row.lt b hb).1; omega, fun q hq => ⟨(h.rem q hq).1.after hs hB fun b hb => by have := ((h.rem q hq).1.lt b hb).1; omega, (h.rem q hq).2⟩⟩
set_option maxRecDepth 100000 in
set_option maxHeartbeats 8000000 in
theorem lawNewer (oa : Option Addr) (cap : Nat) (ps : List PEv) (ob : Option Addr) (cb : Nat) (s : DSet) (piece : Int) (w : World) (h : EvsAt w (.slice oa ps.length cap) ps) (hl : ps.length ≤ 1099511627776) (hf : ∀ p ∈ ps, p.2.fits) (hs : SlAt Dot.cells w (.slice ob s.more.length cb) s.more) (hml : s.more.length ≤ 8796093022208) (hp0 : 0 ≤ piece) (hp1 : piece ≤ 255) :
    Calls Try.prog 4 #[.slice oa ps.length cap, .agg #[.int .i64 (s.u 0), .int .i64 (s.u 1), .int .i64 (s.u 2), .int .i64 (s.u 3), .int .i64 (s.u 4), .int .i64 (s.u 5), .int .i64 (s.u 6), .int .i64 (s.u 7), .slice ob s.more.length cb], .int .u8 piece] w fun e w' => e = .returned (.bool true) ∧ RowKit.Below w.heap.size w w' := by
  have hb0 := (Below.refl w.heap.size w).alloc (Nat.le_refl _) (.cells #[.int .i64 (s.u 0), .int .i64 (s.u 1), .int .i64 (s.u 2), .int .i64 (s.u 3), .int .i64 (s.u 4), .int .i64 (s.u 5), .int .i64 (s.u 6), .int .i64 (s.u 7), .slice ob s.more.length cb] 46)
  have r0 : (w.alloc (.cells #[.int .i64 (s.u 0), .int .i64 (s.u 1), .int .i64 (s.u 2), .int .i64 (s.u 3), .int .i64 (s.u 4), .int .i64 (s.u 5), .int .i64 (s.u 6), .int .i64 (s.u 7), .slice ob s.more.length cb] 46)).heap[w.heap.size]? = _ := heap_alloc_new w _
  have hz0 : w.heap.size < (w.alloc (.cells #[.int .i64 (s.u 0), .int .i64 (s.u 1), .int .i64 (s.u 2), .int .i64 (s.u 3), .int .i64 (s.u 4), .int .i64 (s.u 5), .int .i64 (s.u 6), .int .i64 (s.u 7), .slice ob s.more.length cb] 46)).heap.size := by rw [World.size_alloc]; exact Nat.lt_succ_self _
  have AL := Lib.hid alive08_any
  have hgr := fun W (hE : EvsAt W (.slice oa ps.length cap) ps) => great_any oa cap ps W hE hl (fun p hp => (hf p hp).2.2.2.2.2.2.2)
  have HGR := Lib.hid hgr
  have HE := Lib.hid h
  have HS := Lib.hid hs
  have R0 := Lib.hid r0
  have HB0 := Lib.hid hb0
  clear h hgr hf hb0 r0 hs
  go_enter Try.func4, Try.ntmps4
  go_wp2_with fail
  generalize w.alloc (.cells #[.int .i64 (s.u 0), .int .i64 (s.u 1), .int .i64 (s.u 2), .int .i64 (s.u 3), .int .i64 (s.u 4), .int .i64 (s.u 5), .int .i64 (s.u 6), .int .i64 (s.u 7), .slice ob s.more.length cb] 46) = w0 at *
  refine (AL.out _).mono ?_
  rintro e w1 ⟨rfl, hb1⟩
  have HB1 := Lib.hid (HB0.out.trans (hb1.mono (by omega)))
  have R1 := Lib.hid ((hb1.block _ hz0).trans R0.out)
  have hz1 := hb1.size
  clear hb1 R0 HB0 AL
  by_cases h60 : (60 : Int) < (ps.length : Int)
  · go_wp2_with fail
    go_ret
    exact ⟨rfl, HB1.out⟩
  go_wp2_with fail
  refine (HGR.out _ (HE.out.below HB1.out (Nat.le_refl _))).mono ?_
  rintro e w2 ⟨rfl, hb2⟩
  have HB2 := Lib.hid (HB1.out.trans (hb2.mono HB1.out.size))
  have r2 := (hb2.block _ (by omega)).trans R1.out
  have hz2 := hb2.size
  have c8 := cell_of_row w2 w.heap.size 8 _ _ _ r2
  have R2 := Lib.hid r2
  clear hb2 HB1 R1 r2 HGR
  by_cases hbk : 3000 < bulk (ps.map (·.2))
  · rw [decide_eq_true hbk]
    go_wp2_with fail
    go_ret
    exact ⟨rfl, HB2.out⟩
  rw [decide_eq_false hbk]
  have HREM : Hid (∀ p ∈ ps, p.2.rem.length ≤ 1000000) := fun p hp => by
    have := bulk_mem (ps.map (·.2)) p.2 (List.mem_map_of_mem hp)
    omega
  clear hbk
  by_cases h1000 : (1000 : Int) < (s.more.length : Int)
  · go_wp2_with fail
    go_ret
    exact ⟨rfl, HB2.out⟩
  clear hml
  go_wp2_with fail
  refine (bookNew_any w2).mono ?_
  rintro e w3 ⟨bb, ms, mh, B, rfl, hbk3, hb3, l1, l2, l3⟩
  have HRUN3 : Hid (BookRun w2 bb ms mh B BookS.new w3) := ⟨hbk3, fine_new, hb3, l1, l2, l3⟩
  clear hbk3 hb3 c8
  go_wp2_with fail
  go_loopg [36] ps.length (fun gk s36 wr => ∃ (i : Nat), s36 = .int .i64 i ∧ i ≤ ps.length ∧ ps.length - i ≤ gk ∧ Hid (BookRun w2 bb ms mh B (addsB BookS.new ((ps.take i).map (·.2))) wr))
  case atStart => exact ⟨0, rfl, Nat.zero_le _, Nat.le_refl _, by show BookRun _ _ _ _ _ _ _; rw [addsB_zero]; exact HRUN3.out⟩
  case round =>
    obtain ⟨i, rfl, hi, hg, HRUN⟩ := hrel
    by_cases hlt : i < ps.length
    · have hltz : (i : Int) < (ps.length : Int) := by omega
      have hbw := HB2.out.trans (HRUN.out.below.mono HB2.out.size)
      have hsl : SlAt pcells wr (.slice oa ps.length cap) ps := HE.out.1.below pcells_len (by decide) hbw (Nat.le_refl _)
      obtain ⟨b, off, rfl⟩ := slAt_some hsl i hlt
      obtain ⟨ra, rn, rc, ev, hp, c0, c1, c2, c3, c4, c5, c6, c7, c8, c9, c10, c11, c12, c13⟩ := hsl.ev i hlt
      have hmem : (⟨⟨ra, rn, rc⟩, ev⟩ : PEv) ∈ ps := List.mem_of_getElem? hp
      have hadd := fun W hW => HRUN.out.add (W := W) hW ⟨ra, rn, rc⟩ ev ((HE.out.2 _ hmem).below Dot.cells_len (by decide) HB2.out (Nat.le_refl _)) (HREM.out _ hmem)
      have htk := addsB_take hp BookS.new
      simp only at htk
      have HADD := Lib.hid hadd
      have HTK := Lib.hid htk
      clear hsl hp hmem hadd htk hbw
      go_wp2_with fail
      refine (HADD.out _ ((Below.refl _ _).alloc (Nat.le_refl _) _)).mono ?_
      rintro e w4 ⟨rfl, hrun⟩
      have HRUN4 := Lib.hid hrun
      clear hrun HADD c0 c1 c2 c3 c4 c5 c6 c7 c8 c9 c10 c11 c12 c13
      go_wp2_with fail
      go_roundg (ps.length - (i + 1))
      case measure => omega
      case rel => exact ⟨i + 1, by go_num, by omega, Nat.le_refl _, by show BookRun _ _ _ _ _ _ _; rw [HTK.out]; exact HRUN4.out⟩
    · have hltz : ¬ (i : Int) < (ps.length : Int) := by omega
      obtain rfl : i = ps.length := by omega
      have hrun := HRUN.out
      rw [List.take_length] at hrun
      obtain ⟨S, hS⟩ : ∃ S, addsB BookS.new (ps.map (·.2)) = S := ⟨_, rfl⟩
      rw [hS] at hrun
      have HRUN5 := Lib.hid hrun
      have hz5 := hrun.below.size
      have r5 := (hrun.below.block _ (by omega)).trans R2.out
      have c5 := fun o => cell_of_row wr w.heap.size o _ _ _ r5
      have HB5 := Lib.hid (HB2.out.trans (hrun.below.mono HB2.out.size))
      have hto := setTo_any ob cb s wr (HS.out.below Dot.cells_len (by decide) HB5.out (Nat.le_refl _)) (by omega)
      have HTO := Lib.hid hto
      clear hrun r5 hto HRUN3 HRUN hS HREM HE HS
      go_wp2_with fail
      refine HTO.out.mono ?_
      rintro e w6 ⟨⟨ot, nt, qt⟩, rfl, hown6, hb6⟩
      obtain rfl := hdr_len hown6
      have hjo := join_any ot none qt 0 s DSet.none w6 hown6.at (SlAt.nil _ _) (by omega) (by decide)
      have HJO := Lib.hid hjo
      have hq6 : (qcells (⟨ot, s.more.length, qt⟩, s)).toArray = #[.int .i64 (s.u 0), .int .i64 (s.u 1), .int .i64 (s.u 2), .int .i64 (s.u 3), .int .i64 (s.u 4), .int .i64 (s.u 5), .int .i64 (s.u 6), .int .i64 (s.u 7), .slice ot s.more.length qt] := rfl
      rw [hq6]
      have hz6 := hb6.size
      have HB6 := Lib.hid hb6
      clear hjo hq6 hown6 hb6 HTO c5
      go_wp2_with fail
      refine HJO.out.mono ?_
      rintro e w7 ⟨⟨oj, nj, qj⟩, r, rfl, hcl, hown7, hb7⟩
      obtain rfl := hdr_len hown7
      have hz7 := hb7.size
      have hrr := hcl.right (by
        intro n q hh
        simp only [Grid.or, Bool.or_eq_true] at hh
        rcases hh with hh | hh
        · exact s.grid_ok n q hh
        · exact DSet.none.grid_ok n q hh)
      have hrl : r.more.length ≤ 768 := hrr.2.1
      have hq7 : (qcells (⟨oj, r.more.length, qj⟩, r)).toArray = #[.int .i64 (r.u 0), .int .i64 (r.u 1), .int .i64 (r.u 2), .int .i64 (r.u 3), .int .i64 (r.u 4), .int .i64 (r.u 5), .int .i64 (r.u 6), .int .i64 (r.u 7), .slice oj r.more.length qj] := rfl
      rw [hq7]
      have hb78 := (Below.refl w7.heap.size w7).alloc (Nat.le_refl _) (.cells #[.int .i64 (r.u 0), .int .i64 (r.u 1), .int .i64 (r.u 2), .int .i64 (r.u 3), .int .i64 (r.u 4), .int .i64 (r.u 5), .int .i64 (r.u 6), .int .i64 (r.u 7), .slice oj r.more.length qj] 42)
      have hr8 : SetRow (w7.alloc (.cells #[.int .i64 (r.u 0), .int .i64 (r.u 1), .int .i64 (r.u 2), .int .i64 (r.u 3), .int .i64 (r.u 4), .int .i64 (r.u 5), .int .i64 (r.u 6), .int .i64 (r.u 7), .slice oj r.more.length qj] 42)) w7.heap.size ⟨oj, r.more.length, qj⟩ r := heap_alloc_new w7 _
      have hz8 : (w7.alloc (.cells #[.int .i64 (r.u 0), .int .i64 (r.u 1), .int .i64 (r.u 2), .int .i64 (r.u 3), .int .i64 (r.u 4), .int .i64 (r.u 5), .int .i64 (r.u 6), .int .i64 (r.u 7), .slice oj r.more.length qj] 42)).heap.size = w7.heap.size + 1 := World.size_alloc _ _
      have hown8 := hown7.below hb78 (Nat.le_refl _)
      have hlt7 : ∀ b, (Hdr.val ⟨oj, r.more.length, qj⟩).ownBlock = some b → b < w7.heap.size := fun b hb => (hown7.lt b hb).2
      have hv8 : Below wr.heap.size wr (w7.alloc (.cells #[.int .i64 (r.u 0), .int .i64 (r.u 1), .int .i64 (r.u 2), .int .i64 (r.u 3), .int .i64 (r.u 4), .int .i64 (r.u 5), .int .i64 (r.u 6), .int .i64 (r.u 7), .slice oj r.more.length qj] 42)) := HB6.out.trans ((hb7.trans (hb78.mono hz7)).mono hz6)
      have HR8 := Lib.hid hr8
      have HO8 := Lib.hid hown8
      have HV8 := Lib.hid hv8
      have HL7 := Lib.hid hlt7
      clear hq7 hcl hrr hown7 hb7 hb78 hr8 hown8 hlt7 hv8 HB6 HJO
      go_wp2_with fail
      have hk8 := HR8.out.cells
      obtain ⟨k0, k1, k2, k3, k4, k5, k6, k7, k8⟩ := hk8
      simp only [Hdr.val] at k8
      generalize w7.alloc (.cells #[.int .i64 (r.u 0), .int .i64 (r.u 1), .int .i64 (r.u 2), .int .i64 (r.u 3), .int .i64 (r.u 4), .int .i64 (r.u 5), .int .i64 (r.u 6), .int .i64 (r.u 7), .slice oj r.more.length qj] 42) = w8 at *
      have hrun8 := HRUN5.out.past HV8.out
      have hnew := newer_any bb ms mh B S oj qj r 1000 w8 hrun8.book hrun8.fine.by' (fine_rems hrun8.fine) HO8.out.at (by omega)
      have HNEW := Lib.hid hnew
      have HF := Lib.hid hrun8.fine
      clear hnew hrun8
      have HB5' := Lib.hid HB5.out
      refine HNEW.out.mono ?_
      rintro e w9 ⟨⟨oA, nA, qA⟩, pA, rfl, hpA, haccA, hb9⟩
      obtain rfl : nA = pA.length := hdr_len (o := oA) (c := qA) haccA.row
      have hz9 := hb9.size
      have hhl : S.holds.length ≤ 768 := held_len HF.out.by' fun e he => (HF.out.right e he).1
      have hfa : S.holds.filter (lacks r.grid) = pA.map (·.2) := by
        rw [hpA, newerB_eq]
        have := List.length_filter_le (lacks r.grid) S.holds
        exact (List.take_of_length_le (by show _ ≤ 1000; omega)).symm
      have hpl : pA.length ≤ 768 := by
        have h1 := congrArg List.length hfa
        have := List.length_filter_le (lacks r.grid) S.holds
        rw [List.length_map] at h1
        omega
      obtain ⟨V, hV⟩ : ∃ V, wr.heap.size = V := ⟨_, rfl⟩
      have hbook : ∀ W : World, (∀ i, i < V → W.heap[i]? = w9.heap[i]?) → V ≤ W.heap.size → BookAt W bb ms mh B S := fun W hW hs => HRUN5.out.book.keep (by omega) fun i hi => (hW i (by omega)).trans ((hb9.block i (by omega)).trans (HV8.out.block i hi))
      have HBOOK := Lib.hid hbook
      have HB9 := Lib.hid (HB5.out.trans ((HV8.out.trans (hb9.mono (by omega))).mono (by have := HB5.out.size; omega)))
      have hr9 : SetRow w9 w7.heap.size ⟨oj, r.more.length, qj⟩ r := (hb9.block _ (by omega)).trans HR8.out
      have HR9 := Lib.hid hr9
      have HO9 := Lib.hid ((HO8.out.below hb9 (Nat.le_refl _)).lower (Nat.zero_le _))
      have HA9 := Lib.hid haccA
      have HFA := Lib.hid hfa
      have HME := Lib.hid (fun p (hp : p ∈ pA) => newer_mem p.2 (by rw [← hpA]; exact List.mem_map_of_mem hp))
      have hwV : w.heap.size ≤ V := by have := HB5.out.size; omega
      have hV7 : V ≤ w7.heap.size := by omega
      clear hpA haccA hb9 hfa hbook hr9 HNEW HR8 HO8 HV8 HRUN5 HB5 HB5' k0 k1 k2 k3 k4 k5 k6 k7 k8 hV hz5 hz6 hz7 R2 HB2 hhl
      simp only [Hdr.val]
      go_wp2_with fail
      go_loopg [12, 54] (pA.length + 1) (fun gk s12 s54 wr => ∃ (j k : Nat) (oq : Option Addr) (cq : Nat) (gs : List PEv) (hd : Hdr) (t : DSet), s54 = .int .i64 j ∧ s12 = .slice oq gs.length cq ∧ j ≤ pA.length + 1 ∧ pA.length + 1 - j ≤ gk ∧ (j ≤ k ∨ pA.length ≤ k) ∧ Hid (S.holds.filter (lacks t.grid) = (pA.map (·.2)).drop k) ∧ Hid (gs.map (·.2) = (pA.map (·.2)).take k) ∧ Hid (SetRow wr w7.heap.size hd t) ∧ Hid (Owns Dot.cells 2 0 28 wr hd.val t.more) ∧ Hid (Acc w9.heap.size 33 28 wr (.slice oq gs.length cq) gs) ∧ Hid (∀ b, hd.val.ownBlock = some b → b ≠ w7.heap.size ∧ (Value.slice oq gs.length cq).ownBlock ≠ some b) ∧ Hid (Spares w7.heap.size w9.heap.size w9 wr) ∧ t.more.length ≤ 768)
      case atStart => exact ⟨0, 0, none, 0, [], ⟨oj, r.more.length, qj⟩, r, rfl, rfl, Nat.zero_le _, Nat.le_refl _, .inl (Nat.le_refl _), by show _ = _; rw [List.drop_zero]; exact HFA.out, by show _ = _; simp, HR9.out, HO9.out, Acc.nil _ _ _ _, fun b hb => ⟨fun e => by have := HL7.out b hb; omega, fun e => nomatch e⟩, Spares.refl _ _ _, hrl⟩
      case round =>
        obtain ⟨j, k, oq, cq, gs, ⟨o2, n2, q2⟩, t, rfl, rfl, hj, hg, hjk, HFL, HGS, HR, HO, HA, HD, HSP, htl⟩ := hrel
        obtain rfl : n2 = t.more.length := hdr_len (o := o2) (c := q2) HO.out
        by_cases hlt : j < pA.length + 1
        · have hltz : (j : Int) < (pA.length : Int) + 1 := by omega
          have p0 : 0 ≤ piece % 5 := by omega
          have p4 : piece % 5 < 5 := by omega
          have hsw := HSP.out.size
          have hnew := newer_any bb ms mh B S o2 q2 t (piece % 5 + 1) wr (HBOOK.out wr (fun i hi => HSP.out.block i (by omega) (by omega)) (by omega)) HF.out.by' (fine_rems HF.out) HO.out.at (by omega)
          have HNEW := Lib.hid hnew
          obtain ⟨k0, k1, k2, k3, k4, k5, k6, k7, k8⟩ := HR.out.cells
          simp only [Hdr.val] at k8
          clear hnew
          go_wp2_with fail
          refine HNEW.out.mono ?_
          rintro e w10 ⟨⟨oM, nM, qM⟩, pM, rfl, hpM, haccM, hb10⟩
          obtain rfl : nM = pM.length := hdr_len (o := oM) (c := qM) haccM.row
          have hz10 := hb10.size
          have hMl : (pM.length : Int) ≤ piece % 5 + 1 := by
            have h1 := (newer_len (S := S) t.grid (piece % 5 + 1)).2
            rw [← hpM, List.length_map] at h1
            omega
          have hMs : pM.length ≤ 5 := by omega
          have hneg : ¬ piece % 5 + 1 < (pM.length : Int) := by omega
          obtain ⟨m, hm⟩ : ∃ m, (piece % 5 + 1).toNat = m := ⟨_, rfl⟩
          have hm1 : 1 ≤ m := by omega
          rw [newerB_eq, hm] at hpM
          obtain ⟨V1, hV1⟩ : ∃ V1, wr.heap.size = V1 := ⟨_, rfl⟩
          rw [hV1] at haccM
          have hV1w : w9.heap.size ≤ V1 := by omega
          have hV1x : V1 ≤ w10.heap.size := by omega
          have HR10 := Lib.hid (show SetRow w10 w7.heap.size ⟨o2, t.more.length, q2⟩ t from (hb10.block _ (by omega)).trans HR.out)
          have HO10 := Lib.hid (HO.out.below hb10 (Nat.le_refl _))
          have HA10 := Lib.hid (HA.out.below hb10 (Nat.le_refl _))
          have hga : ∀ b, (Value.slice oq gs.length cq).ownBlock = some b → w9.heap.size ≤ b ∧ b < V1 := fun b hb => by have := HA.out.row.lt b hb; omega
          have HGA := Lib.hid hga
          have HSP10 := Lib.hid (HSP.out.trans (Spares.of_below hb10 (by omega)))
          have HM := Lib.hid hpM
          have HAM := Lib.hid haccM
          have hgl : gs.length ≤ 768 := by
            have h1 := congrArg List.length HGS.out
            rw [List.length_map, List.length_take, List.length_map] at h1
            omega
          clear k0 k1 k2 k3 k4 k5 k6 k7 k8 hpM haccM hb10 hga HNEW HR HO HA HSP hm hV1
          simp only [Hdr.val]
          go_wp2_with fail
          go_loopg [72] pM.length (fun gk s72 wr => ∃ (i : Nat) (hd' : Hdr) (t' : DSet), s72 = .int .i64 i ∧ i ≤ pM.length ∧ pM.length - i ≤ gk ∧ Hid (t'.grid = putAll t.grid ((pM.map (·.2)).take i)) ∧ Hid (SetRow wr w7.heap.size hd' t') ∧ Hid (Owns Dot.cells 2 0 28 wr hd'.val t'.more) ∧ Hid (∀ b, hd'.val.ownBlock = some b → b ≠ w7.heap.size ∧ (Value.slice oq gs.length cq).ownBlock ≠ some b) ∧ Hid (Spares w7.heap.size w10.heap.size w10 wr) ∧ t'.more.length ≤ 768)
          case atStart => exact ⟨0, ⟨o2, t.more.length, q2⟩, t, rfl, Nat.zero_le _, Nat.le_refl _, by show _ = _; rw [putAll_zero], HR10.out, HO10.out, HD.out, Spares.refl _ _ _, htl⟩
          case round =>
            obtain ⟨i, ⟨o3, n3, q3⟩, t3, rfl, hi, hg2, HG3, HR3, HO3, HD3, HSP3, htl3⟩ := hrel
            obtain rfl : n3 = t3.more.length := hdr_len (o := o3) (c := q3) HO3.out
            have hs3 := HSP3.out.size
            have HAM3 := Lib.hid (HAM.out.after HSP3.out (Nat.le_refl _) (by omega))
            by_cases hlt2 : i < pM.length
            · have hltz2 : (i : Int) < (pM.length : Int) := by omega
              obtain ⟨b, off, rfl⟩ := slAt_some HAM3.out.row.at i hlt2
              obtain ⟨ra, rn, rc, ev, hp, c0, c1, c2, c3, c4, c5, c6, c7, c8, c9, c10, c11, c12, c13⟩ := HAM3.out.row.at.ev i hlt2
              have hml2 : i < (pM.map (·.2)).length := by rw [List.length_map]; exact hlt2
              have hev : (pM.map (·.2))[i] = ev := by
                rw [List.getElem_map]
                rw [(List.getElem?_eq_some_iff.1 hp).2]
              obtain ⟨hmay, hlk⟩ := piece_lacks HF.out HM.out hml2
              have hsn := putAll_snoc t.grid hml2
              rw [hev, ← HG3.out] at hlk hsn
              rw [hev] at hmay
              have hb3 := (Below.refl wr.heap.size wr).alloc (Nat.le_refl _) (.cells #[.int .i64 ev.dot.node, .int .i64 ev.dot.seq, .int .i64 ev.time, .int .i64 ev.kind, .int .i64 ev.work, .int .i64 ev.value, .int .i64 ev.pol.mn, .int .i64 ev.pol.mx, .int .i64 ev.pol.goal, .int .i64 ev.pol.slack, .int .i64 ev.pol.up, .int .i64 ev.pol.down, .int .i64 ev.pol.cool, .slice ra rn rc] 33)
              have hrw : (wr.alloc (.cells #[.int .i64 ev.dot.node, .int .i64 ev.dot.seq, .int .i64 ev.time, .int .i64 ev.kind, .int .i64 ev.work, .int .i64 ev.value, .int .i64 ev.pol.mn, .int .i64 ev.pol.mx, .int .i64 ev.pol.goal, .int .i64 ev.pol.slack, .int .i64 ev.pol.up, .int .i64 ev.pol.down, .int .i64 ev.pol.cool, .slice ra rn rc] 33)).heap[wr.heap.size]? = _ := heap_alloc_new wr _
              have hza : (wr.alloc (.cells #[.int .i64 ev.dot.node, .int .i64 ev.dot.seq, .int .i64 ev.time, .int .i64 ev.kind, .int .i64 ev.work, .int .i64 ev.value, .int .i64 ev.pol.mn, .int .i64 ev.pol.mx, .int .i64 ev.pol.goal, .int .i64 ev.pol.slack, .int .i64 ev.pol.up, .int .i64 ev.pol.down, .int .i64 ev.pol.cool, .slice ra rn rc] 33)).heap.size = wr.heap.size + 1 := World.size_alloc _ _
              obtain ⟨e0, e1, _⟩ := ev_row hrw
              have hra : SetRow (wr.alloc (.cells #[.int .i64 ev.dot.node, .int .i64 ev.dot.seq, .int .i64 ev.time, .int .i64 ev.kind, .int .i64 ev.work, .int .i64 ev.value, .int .i64 ev.pol.mn, .int .i64 ev.pol.mx, .int .i64 ev.pol.goal, .int .i64 ev.pol.slack, .int .i64 ev.pol.up, .int .i64 ev.pol.down, .int .i64 ev.pol.cool, .slice ra rn rc] 33)) w7.heap.size ⟨o3, t3.more.length, q3⟩ t3 := (hb3.block _ (by omega)).trans HR3.out
              obtain ⟨k0, k1, k2, k3, k4, k5, k6, k7, k8⟩ := hra.cells
              simp only [Hdr.val] at k8
              have hadd := add_any o3 q3 t3 ev.dot _ (HO3.out.below hb3 (Nat.le_refl _)).at (by omega)
              have HADD := Lib.hid hadd
              have HRA := Lib.hid hra
              have HB3 := Lib.hid hb3
              have HMAY := Lib.hid hmay
              have HLK := Lib.hid hlk
              have HSN := Lib.hid hsn
              clear hb3 hrw hra hadd hmay hlk hsn hev hp
              go_wp2_with fail
              generalize wr.alloc (.cells #[.int .i64 ev.dot.node, .int .i64 ev.dot.seq, .int .i64 ev.time, .int .i64 ev.kind, .int .i64 ev.work, .int .i64 ev.value, .int .i64 ev.pol.mn, .int .i64 ev.pol.mx, .int .i64 ev.pol.goal, .int .i64 ev.pol.slack, .int .i64 ev.pol.up, .int .i64 ev.pol.down, .int .i64 ev.pol.cool, .slice ra rn rc] 33) = wa at *
              refine HADD.out.mono ?_
              rintro e w11 ⟨⟨o4, n4, q4⟩, t4, c, rfl, hown4, hb4, hcs⟩
              obtain rfl : n4 = t4.more.length := hdr_len (o := o4) (c := q4) hown4
              obtain ⟨rfl, hcl4⟩ : c = 0 ∧ Closes (t3.grid.put ev.dot.node.toNat ev.dot.seq.toNat) t4 := by
                rcases hcs with ⟨h1, _⟩ | ⟨_, h1, _⟩ | ⟨_, _, h1, h2⟩
                · exact absurd HMAY.out h1
                · unfold hasB at h1; rw [HLK.out] at h1; cases h1
                · exact ⟨h1, h2⟩
              have hok4 : (t3.grid.put ev.dot.node.toNat ev.dot.seq.toNat).Ok := by
                have := HMAY.out
                unfold May at this
                exact t3.grid_ok.put (by omega) (by omega) (by omega)
              have htl4 : t4.more.length ≤ 768 := (hcl4.right hok4).2.1
              have HG4 : Hid (t4.grid = putAll t.grid ((pM.map (·.2)).take (i + 1))) := (hcl4.grid hok4).trans HSN.out.symm
              have hq4 : (qcells (⟨o4, t4.more.length, q4⟩, t4)).toArray = #[.int .i64 (t4.u 0), .int .i64 (t4.u 1), .int .i64 (t4.u 2), .int .i64 (t4.u 3), .int .i64 (t4.u 4), .int .i64 (t4.u 5), .int .i64 (t4.u 6), .int .i64 (t4.u 7), .slice o4 t4.more.length q4] := rfl
              rw [hq4]
              have hz4 := hb4.size
              have hb5 := (Below.refl w11.heap.size w11).alloc (Nat.le_refl _) (.cells #[.int .i64 (t4.u 0), .int .i64 (t4.u 1), .int .i64 (t4.u 2), .int .i64 (t4.u 3), .int .i64 (t4.u 4), .int .i64 (t4.u 5), .int .i64 (t4.u 6), .int .i64 (t4.u 7), .slice o4 t4.more.length q4] 42)
              have hz5 : (w11.alloc (.cells #[.int .i64 (t4.u 0), .int .i64 (t4.u 1), .int .i64 (t4.u 2), .int .i64 (t4.u 3), .int .i64 (t4.u 4), .int .i64 (t4.u 5), .int .i64 (t4.u 6), .int .i64 (t4.u 7), .slice o4 t4.more.length q4] 42)).heap.size = w11.heap.size + 1 := World.size_alloc _ _
              have hr5 : SetRow (w11.alloc (.cells #[.int .i64 (t4.u 0), .int .i64 (t4.u 1), .int .i64 (t4.u 2), .int .i64 (t4.u 3), .int .i64 (t4.u 4), .int .i64 (t4.u 5), .int .i64 (t4.u 6), .int .i64 (t4.u 7), .slice o4 t4.more.length q4] 42)) w11.heap.size ⟨o4, t4.more.length, q4⟩ t4 := heap_alloc_new w11 _
              have hk5 : SetRow (w11.alloc (.cells #[.int .i64 (t4.u 0), .int .i64 (t4.u 1), .int .i64 (t4.u 2), .int .i64 (t4.u 3), .int .i64 (t4.u 4), .int .i64 (t4.u 5), .int .i64 (t4.u 6), .int .i64 (t4.u 7), .slice o4 t4.more.length q4] 42)) w7.heap.size ⟨o3, t3.more.length, q3⟩ t3 := (hb5.block _ (by omega)).trans ((hb4.block _ (by omega)).trans HRA.out)
              have hfr := hk5.free
              obtain ⟨n0, n1, n2, n3, n4, n5, n6, n7, n8⟩ := hk5.cells
              simp only [Hdr.val] at n8
              obtain ⟨m0, m1, m2, m3, m4, m5, m6, m7, m8⟩ := hr5.cells
              simp only [Hdr.val] at m8
              have hown5 := hown4.below hb5 (Nat.le_refl _)
              have hsp5 := (HSP3.out.trans (Spares.of_below HB3.out hs3)).trans ((Spares.of_below hb4 (by omega)).trans (Spares.of_below hb5 (by omega)))
              have HO5 := Lib.hid hown5
              have HK5 := Lib.hid hk5
              have HSP5 := Lib.hid hsp5
              clear hq4 hcl4 hok4 hcs hown4 hb4 hb5 hr5 hk5 hown5 hsp5 k0 k1 k2 k3 k4 k5 k6 k7 k8 c0 c1 c2 c3 c4 c5 c6 c7 c8 c9 c10 c11 c12 c13 e0 e1 HADD HRA HLK HSN
              go_wp2_with fail
              go_roundg (pM.length - (i + 1))
              case measure => omega
              case rel =>
                have hgr := grown_put9 (World.grownBy.refl (w11.alloc (.cells #[.int .i64 (t4.u 0), .int .i64 (t4.u 1), .int .i64 (t4.u 2), .int .i64 (t4.u 3), .int .i64 (t4.u 4), .int .i64 (t4.u 5), .int .i64 (t4.u 6), .int .i64 (t4.u 7), .slice o4 t4.more.length q4] 42)) (some w7.heap.size)) t4 (.slice o4 t4.more.length q4)
                exact ⟨i + 1, ⟨o4, t4.more.length, q4⟩, t4, by go_num, by omega, Nat.le_refl _, HG4, HK5.out.put9 ⟨o4, t4.more.length, q4⟩ t4, (HO5.out.past hgr (by omega)).lower (Nat.zero_le _), fun b' hb' => by
                  have h1 := (HO5.out.lt b' hb').1
                  exact ⟨by omega, fun e => by have := HGA.out b' e; omega⟩, HSP5.out.set hgr (by omega), htl4⟩
            · have hltz2 : ¬ (i : Int) < (pM.length : Int) := by omega
              obtain rfl : i = pM.length := by omega
              have hg3 := HG3.out
              rw [List.take_of_length_le (by rw [List.length_map]; exact Nat.le_refl _), HM.out, HFL.out] at hg3
              have hnx := piece_next HF.out HFL.out m
              rw [← hg3] at hnx
              have hmap : pM.map (·.2) = ((pA.map (·.2)).drop k).take m := by rw [HM.out, HFL.out]
              have HNX := Lib.hid hnx
              have HMP := Lib.hid hmap
              have HA3 := Lib.hid (HA10.out.after HSP3.out (Nat.le_refl _) (by omega))
              have HSP4 := Lib.hid (HSP10.out.trans ⟨HSP3.out.os, HSP3.out.tape, HSP3.out.output, HSP3.out.size, fun i hi hne => HSP3.out.block i (by omega) hne⟩)
              clear hg3 hnx hmap HG3 HSP3 HSP10 HA10 HR10 HO10 HM HFL
              go_wp2_with (at_builtin; go_loud (refine wpList_app pcells 14 pcells_len (by decide) pcells_one _ rfl _ _ 22 rfl w9.heap.size 33 _ 128 Try.underlying22 infoEv rfl _ gs rfl ?h1 _ pM rfl ?h2 ?h3 ?h4 ?h5 ?_))
              case h1 => exact HA3.out.row
              case h2 => exact HAM3.out.row.at
              case h3 => omega
              case h4 => omega
              case h5 => omega
              intro v' w' hown2 hg2' hv2
              have hacc := HA3.out.push (ms := pM) (fun q hq => by
                have h1 := HAM3.out.rem q hq
                refine ⟨h1.1.lower (by omega), ?_⟩
                cases hx : q.1.val.ownBlock with
                | none => exact .inl rfl
                | some g =>
                  refine .inr fun e2 => ?_
                  have h2 := (h1.1.lt g hx).1
                  have h3 := (HGA.out g e2.symm).2
                  omega) hown2 hg2' hv2
              obtain ⟨o', c', hv'⟩ := slAt_slice hown2.at
              subst hv'
              have hr' : SetRow w' w7.heap.size ⟨o3, t3.more.length, q3⟩ t3 := (hg2'.block _ (by omega) (fun e => by have := (HGA.out _ e.symm).1; omega)).trans HR3.out
              have hne3 : (Hdr.val ⟨o3, t3.more.length, q3⟩).ownBlock = none ∨ (Hdr.val ⟨o3, t3.more.length, q3⟩).ownBlock ≠ (Value.slice oq gs.length cq).ownBlock := by
                cases hx : (Hdr.val ⟨o3, t3.more.length, q3⟩).ownBlock with
                | none => exact .inl rfl
                | some g => exact .inr fun e => (HD3.out g hx).2 e.symm
              have ho' := HO3.out.kept hg2' hne3
              have hd' : ∀ b, (Hdr.val ⟨o3, t3.more.length, q3⟩).ownBlock = some b → b ≠ w7.heap.size ∧ (Value.slice o' (gs ++ pM).length c').ownBlock ≠ some b := fun b hb => by
                refine ⟨(HD3.out b hb).1, fun e => ?_⟩
                rcases hv2 with h1 | h1
                · exact (HD3.out b hb).2 (h1.symm.trans e)
                · have h2 := h1 b e
                  have h3 := (HO3.out.lt b hb).2
                  omega
              have hsp' := HSP4.out.trans ⟨hg2'.os, hg2'.tape, hg2'.output, hg2'.size, fun i hi hne => hg2'.block i (by omega) (fun e => by have := (HGA.out i e.symm).1; omega)⟩
              have HACC := Lib.hid hacc
              have HR' := Lib.hid hr'
              have HO' := Lib.hid ho'
              have HD' := Lib.hid hd'
              have HSP' := Lib.hid hsp'
              clear hacc hr' ho' hd' hsp' hown2 hg2' hv2 hne3 HA3 HAM3 HR3 HO3 HD3 HSP4
              go_wp2_with fail
              go_roundg (pA.length + 1 - (j + 1))
              case measure => omega
              case rel => exact ⟨j + 1, k + m, o', c', gs ++ pM, ⟨o3, t3.more.length, q3⟩, t3, by go_num, rfl, by omega, Nat.le_refl _, by omega, HNX.out, by show _ = _; rw [List.map_append, HGS.out, HMP.out, List.take_add], HR'.out, HO'.out, HACC.out, HD'.out, HSP'.out, htl3⟩
        · have hltz : ¬ (j : Int) < (pA.length : Int) + 1 := by omega
          have hkk : pA.length ≤ k := by omega
          have hgm := HGS.out
          rw [List.take_of_length_le (by rw [List.length_map]; exact hkk)] at hgm
          have hgl : gs.length = pA.length := by
            have h1 := congrArg List.length hgm
            simpa using h1
          have hall := all_any oq oA cq qA gs pA wr HA.out.evs (by rw [hgl]; exact (HA9.out.after HSP.out (Nat.le_refl _) (by omega)).evs) hgm (by omega) (acc_rems HF.out fun p hp => by
            have h1 : p.2 ∈ gs.map (·.2) := List.mem_map_of_mem hp
            rw [hgm] at h1
            obtain ⟨z, hz, he⟩ := List.mem_map.1 h1
            rw [← he]
            exact HME.out z hz)
          rw [hgl] at hall ⊢
          have HALL := Lib.hid hall
          have hsw := HSP.out.size
          have HBF : Hid (Below w.heap.size w wr) := HB9.out.trans ⟨HSP.out.os, HSP.out.tape, HSP.out.output, HSP.out.size, fun i hi => HSP.out.block i (by omega) (by omega)⟩
          clear hall hgm hgl HGS HFL HR HO HA HD HSP HA9 HME
          go_wp2_with fail
          refine HALL.out.mono ?_
          rintro e w12 ⟨rfl, hg12⟩
          have HBZ := Lib.hid (HBF.out.trans (hg12.below.mono HBF.out.size))
          clear hg12 HALL HBF
          go_wp2_with fail
          go_ret
          exact ⟨rfl, HBZ.out⟩
end Go.Proofs.Ytidiapgdgoeplaa
