/-
  The law's own example, walked.
  The law's steps as they lie in memory.
  great walked: whether steps are more than are looked at.
-/
import Derived.Test.YtjgbflclhkeibaaGreatMMore
import Derived.Test.YtjgbflclhkeibaaGreatMAcc
import Derived.Test.YtjgbflclhkeibaaGreatMIntRow
import Derived.Test.YtjgbflclhkeibaaGreatRef07
namespace Go.Proofs.YtjgbflclhkeibaaGreat
open Go.Shelf Go.RowKit Go.Lib Go.Sort
set_option linter.unusedVariables false
def polA : Pol := ⟨0, 9, 10, 0, 2, 1, 3⟩
def cfgA : ACfg := ⟨3, 1, 1, 0⟩
theorem planA1 : planI cfgA Trk.none (knownE polA 50 0) [3] 0 2 5 = ((4, 0), ⟨[4], false, 0⟩) := by
  rw [planI_known cfgA (by decide) Trk.none polA (by decide) 50 0 2 5 [3] (by decide) (by decide) (by decide) (by decide), if_pos (show own (rk [3] 0 cfgA.salt) = (cfgA.self, 0) from own_one 3 0 _ (by decide) (by decide)), stepI_straight polA (by decide) rfl 50 2 (by decide) (by decide) (by decide) (by decide)]
  rfl
theorem planA2 : planI cfgA ⟨[4], true, 7⟩ (knownE polA 50 0) [3] 0 4 9 = ((0, 14), ⟨[4], true, 7⟩) := by
  rw [planI_known cfgA (by decide) _ polA (by decide) 50 0 4 9 [3] (by decide) (by decide) (by decide) (by decide), if_pos (show own (rk [3] 0 cfgA.salt) = (cfgA.self, 0) from own_one 3 0 _ (by decide) (by decide)), if_pos (by decide)]
theorem planA3 : planI cfgA ⟨[4], true, 7⟩ (knownE polA 50 0) [3] 0 4 10 = ((5, 0), ⟨[5], true, 7⟩) := by
  rw [planI_known cfgA (by decide) _ polA (by decide) 50 0 4 10 [3] (by decide) (by decide) (by decide) (by decide), if_pos (show own (rk [3] 0 cfgA.salt) = (cfgA.self, 0) from own_one 3 0 _ (by decide) (by decide)), stepI_straight polA (by decide) rfl 50 4 (by decide) (by decide) (by decide) (by decide)]
  rfl
theorem planA4 (t : Trk) : planI cfgA t (knownE polA 50 0) [2] 0 4 10 = ((0, 12), t) := by
  rw [planI_known cfgA (by decide) _ polA (by decide) 50 0 4 10 [2] (by decide) (by decide) (by decide) (by decide), if_neg (show ¬ own (rk [2] 0 cfgA.salt) = (cfgA.self, 0) by rw [own_one 2 0 cfgA.salt (by decide) (by decide)]; decide)]
set_option maxRecDepth 100000 in
set_option maxHeartbeats 8000000 in
theorem alive24_any (w : World) : Calls Tryz.prog 4 #[] w fun e w' => e = .returned (.bool true) ∧ Below w.heap.size w w' := by
  have hn := actNew_right cfgA (by decide) w
  have HN := Lib.hid hn
  have hs : 0 ≤ cfgA.salt ∧ cfgA.salt < 18446744073709551616 := by decide
  have HS := Lib.hid hs
  have hc : cfgA.right := by decide
  have HC := Lib.hid hc
  clear hn hs hc
  go_enter Tryz.func4, Tryz.ntmps4
  go_wp2_with fail
  refine HN.out.mono ?_
  rintro e w1 ⟨ab, rfl, hab, ha1, hb1⟩
  have hz1 := hb1.size
  have HA1 := Lib.hid ha1
  have HB1 := Lib.hid hb1
  clear ha1 hb1 HN
  go_wp2_with fail
  refine (known_any polA 50 w1).mono ?_
  rintro e w2 ⟨eb, rfl, heb, he2, hb2⟩
  have hst : ActSt ab eb cfgA polA 50 0 w w2 Trk.none := ⟨HB1.out.trans (hb2.mono hz1), hab, by have := HA1.out.lt; omega, he2, _, _, HA1.out.below hb2, rfl⟩
  have H2 := Lib.hid hst
  clear hst he2 hb2 HA1 HB1 heb
  go_wp2_with fail
  have h3 := H2.out.plan (by decide) HC.out HS.out 3 2 5
  rw [show ((0 : Nat) : Int) = 0 from rfl, planA1] at h3
  refine h3.mono ?_
  clear h3
  rintro e w3 ⟨rfl, hst, _⟩
  have H3 := Lib.hid hst
  clear hst H2
  go_wp2_with fail
  refine (H3.out.done (by decide) 7).mono ?_
  rintro e w4 ⟨rfl, hst, _⟩
  have H4 := Lib.hid (show ActSt ab eb cfgA polA 50 0 w w4 ⟨[4], true, 7⟩ from hst)
  clear hst H3
  go_wp2_with fail
  have h5 := H4.out.plan (by decide) HC.out HS.out 3 4 9
  rw [show ((0 : Nat) : Int) = 0 from rfl, planA2] at h5
  refine h5.mono ?_
  clear h5
  rintro e w5 ⟨rfl, hst, _⟩
  have H5 := Lib.hid hst
  clear hst H4
  go_wp2_with fail
  have h6 := H5.out.plan (by decide) HC.out HS.out 3 4 10
  rw [show ((0 : Nat) : Int) = 0 from rfl, planA3] at h6
  refine h6.mono ?_
  clear h6
  rintro e w6 ⟨rfl, hst, _⟩
  have H6 := Lib.hid hst
  clear hst H5
  go_wp2_with fail
  have h7 := H6.out.plan (by decide) HC.out HS.out 2 4 10
  rw [show ((0 : Nat) : Int) = 0 from rfl, planA4] at h7
  refine h7.mono ?_
  clear h7
  rintro e w7 ⟨rfl, hst, _⟩
  have H7 := Lib.hid hst
  clear hst H6
  go_wp2_with fail
  refine (done_nil 0 0 w7).mono ?_
  rintro e w8 ⟨rfl, rfl⟩
  go_wp2_with fail
  go_ret
  exact ⟨rfl, H7.out.below⟩
end Go.Proofs.YtjgbflclhkeibaaGreat
namespace Go.Proofs.YtjgbflclhkeibaaGreat
open Go.Shelf Go.RowKit Go.Lib Go.Sort
set_option linter.unusedVariables false
structure AOp where
  done : Bool
  oe : Option Addr
  ce : Nat
  evs : List PEv
  ol : Option Addr
  cl : Nat
  live : List Int
  work : Int
  now : Int
  tick : Int
def AOp.cells (o : AOp) : List Value := [.bool o.done, .slice o.oe o.evs.length o.ce, .slice o.ol o.live.length o.cl, .int .i64 o.work, .int .i64 o.now, .int .i64 o.tick]
theorem AOp.cells_len (o : AOp) : o.cells.length = 6 := rfl
def OpsAt (w : World) (v : Value) (l : List AOp) : Prop := SlAt AOp.cells w v l ∧ ∀ o ∈ l, EvsAt w (.slice o.oe o.evs.length o.ce) o.evs ∧ SlAt icells w (.slice o.ol o.live.length o.cl) o.live
theorem OpsAt.below {w w' : World} {v : Value} {l : List AOp} (h : OpsAt w v l) (hb : Below w.heap.size w w') : OpsAt w' v l :=
  ⟨h.1.below AOp.cells_len (by decide) hb (Nat.le_refl _), fun o ho => ⟨(h.2 o ho).1.below hb (Nat.le_refl _), (h.2 o ho).2.below icells_len (by decide) hb (Nat.le_refl _)⟩⟩
/-- how much a step may be, by its kind -/
def AOp.sized (o : AOp) : Prop := o.evs.length ≤ 1099511627776 ∧ (∀ p ∈ o.evs, p.2.rem.length ≤ 8796093022208) ∧ o.live.length ≤ 17592186044416
theorem OpsAt.op {w : World} {b off n cap : Nat} {l : List AOp} (h : OpsAt w (.slice (some ⟨b, off, none⟩) n cap) l) (i : Nat) (hi : i < l.length) :
    ∃ o, l[i]? = some o ∧ o ∈ l ∧ EvsAt w (.slice o.oe o.evs.length o.ce) o.evs ∧ SlAt icells w (.slice o.ol o.live.length o.cl) o.live ∧ w.cell? ⟨b, off + i * 6, none⟩ = some (.bool o.done) ∧ w.cell? ⟨b, off + i * 6 + 1, none⟩ = some (.slice o.oe o.evs.length o.ce) ∧
      w.cell? ⟨b, off + i * 6 + 2, none⟩ = some (.slice o.ol o.live.length o.cl) ∧ w.cell? ⟨b, off + i * 6 + 3, none⟩ = some (.int .i64 o.work) ∧ w.cell? ⟨b, off + i * 6 + 4, none⟩ = some (.int .i64 o.now) ∧ w.cell? ⟨b, off + i * 6 + 5, none⟩ = some (.int .i64 o.tick) := by
  have hc := fun (c : Nat) (hc : c < 6) => h.1.cell AOp.cells_len (i := i) (c := c) hi hc
  refine ⟨l[i]'hi, List.getElem?_eq_getElem hi, List.getElem_mem hi, (h.2 _ (List.getElem_mem hi)).1, (h.2 _ (List.getElem_mem hi)).2, hc 0 (by decide), ?_, ?_, ?_, ?_, ?_⟩
  · rw [Nat.add_assoc]; exact hc 1 (by decide)
  · rw [Nat.add_assoc]; exact hc 2 (by decide)
  · rw [Nat.add_assoc]; exact hc 3 (by decide)
  · rw [Nat.add_assoc]; exact hc 4 (by decide)
  · rw [Nat.add_assoc]; exact hc 5 (by decide)
end Go.Proofs.YtjgbflclhkeibaaGreat
namespace Go.Proofs.YtjgbflclhkeibaaGreat
open Go.Shelf Go.RowKit Go.Lib Go.Sort
set_option linter.unusedVariables false
def AOp.big (o : AOp) : Bool := decide (3000 < bulk (o.evs.map (·.2))) || decide (200 < o.evs.length) || decide (100 < o.live.length)
def greatOps (l : List AOp) : Bool := l.any AOp.big || decide (60 < l.length)
theorem greatOps_not {l : List AOp} (h : greatOps l = false) : l.length ≤ 60 ∧ ∀ o ∈ l, o.evs.length ≤ 200 ∧ o.live.length ≤ 100 ∧ ∀ p ∈ o.evs, p.2.rem.length ≤ 3000 := by
  unfold greatOps at h
  rw [Bool.or_eq_false_iff, decide_eq_false_iff_not] at h
  refine ⟨by omega, fun o ho => ?_⟩
  have hb : o.big = false := by
    have := List.any_eq_false.1 h.1 o ho
    simpa using this
  unfold AOp.big at hb
  rw [Bool.or_eq_false_iff, Bool.or_eq_false_iff, decide_eq_false_iff_not, decide_eq_false_iff_not, decide_eq_false_iff_not] at hb
  refine ⟨by omega, by omega, fun p hp => ?_⟩
  have := bulk_mem (o.evs.map (·.2)) p.2 (List.mem_map_of_mem hp)
  omega
set_option maxRecDepth 100000 in
set_option maxHeartbeats 4000000 in
theorem greatOps_any (oa : Option Addr) (cap : Nat) (l : List AOp) (w : World) (h : OpsAt w (.slice oa l.length cap) l) (hl : l.length ≤ 1000000000000000) (hf : ∀ o ∈ l, o.sized) :
    Calls Tryz.prog 5 #[.slice oa l.length cap] w fun e w' => e = .returned (.bool (greatOps l)) ∧ Below w.heap.size w w' := by
  have HE := Lib.hid h
  have HF := Lib.hid hf
  clear h hf
  go_enter Tryz.func5, Tryz.ntmps5
  go_wp2_with fail
  go_loopg [7] l.length (fun gk s7 wr => ∃ (i : Nat), s7 = .int .i64 i ∧ i ≤ l.length ∧ l.length - i ≤ gk ∧ Hid (∀ o ∈ l.take i, o.big = false) ∧ Hid (Below w.heap.size w wr))
  case atStart => exact ⟨0, rfl, Nat.zero_le _, Nat.le_refl _, by show ∀ _, _; simp, Below.refl _ _⟩
  case round =>
    obtain ⟨i, rfl, hi, hg, HI, HB⟩ := hrel
    by_cases hlt : i < l.length
    · have hltz : (i : Int) < (l.length : Int) := by omega
      have hsl := HE.out.below HB.out
      obtain ⟨b, off, rfl⟩ := hsl.1.plain AOp.cells_len (by decide) (by intro e; rw [e] at hlt; exact absurd hlt (by simp))
      obtain ⟨o, hp, hmem, hev, hlv, d0, d1, d2, d3, d4, d5⟩ := hsl.op i hlt
      have hsz := HF.out o hmem
      have hgr := fun W (hW : Below wr.heap.size wr W) => great_any o.oe o.ce o.evs W (hev.below hW (Nat.le_refl _)) hsz.1 hsz.2.1
      have hz2 := hsz.1
      have hz3 := hsz.2.2
      have hbig : o.big = (decide (3000 < bulk (o.evs.map (·.2))) || decide (200 < o.evs.length) || decide (100 < o.live.length)) := rfl
      have hmm : greatOps l = true ∨ o.big = false := by
        cases hb : o.big
        · exact .inr rfl
        · refine .inl ?_
          unfold greatOps
          rw [Bool.or_eq_true]
          exact .inl (List.any_eq_true.2 ⟨o, hmem, hb⟩)
      have htk : o.big = false → ∀ x ∈ l.take (i + 1), x.big = false := by
        intro hb x hx
        rw [List.take_succ_eq_append_getElem hlt, List.mem_append] at hx
        rcases hx with hx | hx
        · exact HI.out x hx
        · have : x = o := by
            have e1 := (List.getElem?_eq_some_iff.1 hp).2
            simpa [e1] using hx
          rw [this]; exact hb
      have HGR := Lib.hid hgr
      have HTK := Lib.hid htk
      have HMM := Lib.hid hmm
      generalize hb1 : decide (3000 < bulk (o.evs.map (·.2))) = b1 at *
      generalize o.big = bg at *
      generalize hne : o.evs.length = ne at *
      generalize hnl : o.live.length = nl at *
      have HBIG := Lib.hid hbig
      clear hsl hp hmem hev hlv hsz hgr hbig hmm htk hb1 hne hnl
      have hz : ∀ W : World, Below wr.heap.size wr W → Below w.heap.size w W := fun W hW => HB.out.trans (hW.mono HB.out.size)
      have HZ := Lib.hid hz
      clear hz
      cases b1 with
      | true =>
        go_wp2_with fail
        refine (HGR.out _ (by first | exact ((Below.refl _ _).alloc (Nat.le_refl _) _) | exact ((Below.refl _ _).alloc (Nat.le_refl _) _).setCell (Nat.le_refl _) _)).mono ?_
        rintro e w1 ⟨rfl, hb1⟩
        have HB1 := Lib.hid (((Below.refl wr.heap.size wr).alloc (Nat.le_refl _) (.cells #[.bool o.done, .slice o.oe ne o.ce, .slice o.ol nl o.cl, .int .i64 o.work, .int .i64 o.now, .int .i64 o.tick] 39)).trans (hb1.mono (by simp)))
        clear hb1
        go_wp2_with fail
        go_ret
        have hx : greatOps l = true := by
          rcases HMM.out with h | h
          · exact h
          · rw [HBIG.out] at h; simp at h
        exact ⟨by rw [hx]; rfl, HZ.out _ HB1.out⟩
      | false =>
        obtain ⟨y2, k2⟩ : ∃ x, decide ((ne : Int) > 200) = x := ⟨_, rfl⟩
        obtain ⟨y3, k3⟩ : ∃ x, decide ((nl : Int) > 100) = x := ⟨_, rfl⟩
        have j2 : decide (200 < ne) = y2 := by rw [← k2, Bool.eq_iff_iff]; simp only [decide_eq_true_eq]; omega
        have j3 : decide (100 < nl) = y3 := by rw [← k3, Bool.eq_iff_iff]; simp only [decide_eq_true_eq]; omega
        rw [j2, j3] at HBIG
        clear j2 j3
        have hq : (y2 = true ∨ y3 = true) → greatOps l = true := fun hy => by
          rcases HMM.out with h | h
          · exact h
          · rw [HBIG.out] at h; rcases hy with rfl | rfl <;> simp at h
        have hq2 : y2 = false → y3 = false → bg = false := fun h1 h2 => by rw [HBIG.out, h1, h2]; rfl
        have HQ := Lib.hid hq
        have HQ2 := Lib.hid hq2
        clear hq hq2 HBIG HMM
        go_wp2_with fail
        refine (HGR.out _ (by first | exact ((Below.refl _ _).alloc (Nat.le_refl _) _) | exact ((Below.refl _ _).alloc (Nat.le_refl _) _).setCell (Nat.le_refl _) _)).mono ?_
        rintro e w1 ⟨rfl, hb1⟩
        obtain ⟨hcell, hfr⟩ := bcell hb1
        have hz : wr.heap.size < w1.heap.size := by have := hb1.size; simp at this; omega
        have HB1 := Lib.hid (((Below.refl wr.heap.size wr).alloc (Nat.le_refl _) (.cells #[.bool o.done, .slice o.oe ne o.ce, .slice o.ol nl o.cl, .int .i64 o.work, .int .i64 o.now, .int .i64 o.tick] 39)).trans (hb1.mono (by simp)))
        clear hb1
        cases y2 with
        | true =>
          go_wp2_with fail
          go_ret
          exact ⟨by rw [HQ.out (by simp)]; rfl, HZ.out _ HB1.out⟩
        | false =>
          cases y3 with
          | true =>
            go_wp2_with fail
            go_ret
            exact ⟨by rw [HQ.out (by simp)]; rfl, HZ.out _ HB1.out⟩
          | false =>
            go_wp2_with fail
            go_roundg (l.length - (i + 1))
            case measure => omega
            case rel => exact ⟨i + 1, by go_num, by omega, Nat.le_refl _, HTK.out (HQ2.out (by simp) (by simp)), HZ.out _ HB1.out⟩
    · have hltz : ¬ (i : Int) < (l.length : Int) := by omega
      obtain rfl : i = l.length := by omega
      have hno := HI.out
      rw [List.take_length] at hno
      have hgo : greatOps l = decide (60 < l.length) := by
        unfold greatOps
        rw [List.any_eq_false.2 fun x hx => by rw [hno x hx]; simp]
        simp
      have HG := Lib.hid hgo
      clear hno hgo
      go_wp2_with fail
      go_ret
      refine ⟨?_, HB.out⟩
      rw [HG.out]
      exact retB (by rw [Bool.eq_iff_iff]; simp only [decide_eq_true_eq]; omega)
end Go.Proofs.YtjgbflclhkeibaaGreat
