/-
  The reference's Mean and Load: the same as the program's.
-/
import Derived.Test.YtjgbflclhkeibaaGreatRefOf
import Derived.Test.YtjgbflclhkeibaaGreatMean
namespace Go.Proofs.YtjgbflclhkeibaaGreat
open Go.Shelf Go.RowKit Go.Lib Go.Sort
set_option linter.unusedVariables false
theorem meanOf_empty : meanOf [] = (0, 2) := by decide
theorem meanOf_some {s : List Ev} (h : 1 ≤ s.length) : (meanOf s).2 = 0 := by
  unfold meanOf ceilDiv
  have hc : ¬ clamp (s.length : Int) ≤ 0 := by
    unfold clamp within
    split
    · omega
    · split <;> omega
  rw [if_neg hc]
set_option maxHeartbeats 8000000 in
theorem refMean_any (oa : Option Addr) (cap : Nat) (ps : List PEv) (work node size : Int) (w : World) (h : EvsAt w (.slice oa ps.length cap) ps) (hl : ps.length ≤ 1000000) (hr : ∀ p ∈ ps, p.2.rem.length ≤ 1000000) :
    Calls Tryz.prog 49 #[.slice oa ps.length cap, .int .i64 work, .int .i64 node, .int .i64 size] w fun e w' => e = .returned (.tuple #[.int .i64 (meanOf (winOf (ps.map (·.2)) work node size)).1, .bool ((meanOf (winOf (ps.map (·.2)) work node size)).2 == 0)]) ∧ Below w.heap.size w w' := by
  have hof := fun W (hE : EvsAt W (.slice oa ps.length cap) ps) => refOf_any oa cap ps work node size W hE hl hr
  have HOF := Lib.hid hof
  have HE := Lib.hid h
  obtain ⟨s, hss⟩ : ∃ s, s = winOf (ps.map (·.2)) work node size := ⟨_, rfl⟩
  rw [← hss]
  have HSS := Lib.hid hss
  obtain ⟨r, hrr⟩ : ∃ r, r = meanOf s := ⟨_, rfl⟩
  rw [← hrr]
  have HRR := Lib.hid hrr
  clear hof h hr hss hrr
  go_enter Tryz.func49, Tryz.ntmps49
  go_wp2_with fail
  refine (HOF.out _ HE.out).mono ?_
  rintro e w1 ⟨v, qs, rfl, hqn, hqs, hacc, hb⟩
  obtain ⟨oq, cq, rfl⟩ := slAt_slice hacc.row.at
  rw [← HSS.out] at hqs
  have HB := Lib.hid hb
  have HACC := Lib.hid hacc
  have HQS := Lib.hid hqs
  have hsl : s.length = qs.length := by rw [← hqs, List.length_map]
  clear hacc hb hqs
  by_cases hn : qs.length = 0
  · have hr0 : r = (0, 2) := by
      rw [HRR.out, List.eq_nil_of_length_eq_zero (hsl.trans hn)]
      exact meanOf_empty
    subst hr0
    have hz : ((qs.length : Int) == 0) = true := by rw [hn]; rfl
    clear HRR
    go_wp2_with fail
    go_ret2
    exact ⟨rfl, HB.out⟩
  · have hr0 : r.2 = 0 := by rw [HRR.out]; exact meanOf_some (by omega)
    have hz : ((qs.length : Int) == 0) = false := by rw [beq_eq_false_iff_ne]; omega
    obtain ⟨r1, r2⟩ := r
    simp only at hr0
    subst hr0
    simp only
    go_wp2_with fail
    go_loopg [11, 26] qs.length (fun gk s11 s26 wr => ∃ (i : Nat), s26 = .int .i64 i ∧ s11 = .int .i64 (sumOf ((qs.take i).map (·.2))) ∧ i ≤ qs.length ∧ qs.length - i ≤ gk ∧ Hid (Below w1.heap.size w1 wr))
    case atStart => exact ⟨0, rfl, rfl, Nat.zero_le _, Nat.le_refl _, Below.refl _ _⟩
    case round =>
      obtain ⟨i, rfl, rfl, hi, hg, HX⟩ := hrel
      by_cases hlt : i < qs.length
      · have hltz : (i : Int) < (qs.length : Int) := by omega
        have hsl2 : SlAt pcells wr (.slice oq qs.length cq) qs := HACC.out.row.at.below pcells_len (by decide) HX.out (Nat.le_refl _)
        obtain ⟨b, off, rfl⟩ := slAt_some hsl2 i hlt
        obtain ⟨ra, rn, rc, ev, hp, c0, c1, c2, c3, c4, c5, c6, c7, c8, c9, c10, c11, c12, c13⟩ := hsl2.ev i hlt
        have htk : sumOf ((qs.take (i + 1)).map (·.2)) = satAdd (sumOf ((qs.take i).map (·.2))) ev.value := by
          rw [List.take_succ_eq_append_getElem hlt, (List.getElem?_eq_some_iff.1 hp).2, List.map_append]
          exact sumOf_snoc _ _
        have HTK := Lib.hid htk
        have had := refAdd_any (sumOf ((qs.take i).map (·.2))) ev.value
        rw [← htk] at had
        have HAD := Lib.hid had
        clear hsl2 hp htk had
        generalize sumOf ((qs.take i).map (·.2)) = sm at *
        generalize hsm2 : sumOf ((qs.take (i + 1)).map (·.2)) = sm2 at *
        have HSM2 := Lib.hid hsm2
        clear hsm2
        go_wp2_with fail
        refine (HAD.out _).mono ?_
        rintro e w' ⟨rfl, rfl⟩
        go_wp2_with fail
        go_roundg (qs.length - (i + 1))
        case measure => omega
        case rel => exact ⟨i + 1, by go_num, by rw [HSM2.out], by omega, Nat.le_refl _, HX.out.alloc HX.out.size _⟩
      · have hltz : ¬ (i : Int) < (qs.length : Int) := by omega
        obtain rfl : i = qs.length := by omega
        have hcd := refCeilDiv_any (sumOf (qs.map (·.2))) qs.length
        have hre := HRR.out
        unfold meanOf at hre
        rw [hsl, ← HQS.out] at hre
        rw [← hre] at hcd
        have htl : (qs.take qs.length).map (·.2) = qs.map (·.2) := by rw [List.take_length]
        rw [htl]
        generalize sumOf (qs.map (·.2)) = sm at *
        have HCD := Lib.hid hcd
        have HBEL := Lib.hid (HB.out.trans (HX.out.mono HB.out.size))
        clear hcd hre htl
        go_wp2_with fail
        refine (HCD.out _).mono ?_
        rintro e w' ⟨rfl, rfl⟩
        go_wp2_with fail
        go_ret2
        exact ⟨rfl, HBEL.out⟩
theorem within_iff (size : Int) : within size 1 16 = size ↔ 1 ≤ size ∧ size ≤ 16 := by
  unfold within
  split
  · omega
  · split <;> omega
set_option maxHeartbeats 8000000 in
theorem refLoad_any (oa : Option Addr) (cap : Nat) (ps : List PEv) (work size : Int) (w : World) (h : EvsAt w (.slice oa ps.length cap) ps) (hl : ps.length ≤ 1000000) (hr : ∀ p ∈ ps, p.2.rem.length ≤ 1000000) :
    Calls Tryz.prog 32 #[.slice oa ps.length cap, .int .i64 work, .int .i64 size] w fun e w' => e = .returned (.tuple #[.int .i64 (loadOf (ps.map (·.2)) work size).1.1, .int .i64 (loadOf (ps.map (·.2)) work size).1.2, .int .i64 (loadOf (ps.map (·.2)) work size).2]) ∧ Below w.heap.size w w' := by
  have hm := fun (node : Nat) W (hE : EvsAt W (.slice oa ps.length cap) ps) => refMean_any oa cap ps work node size W hE hl hr
  have HM := Lib.hid hm
  have HE := Lib.hid h
  clear hm h hr
  by_cases ht : within size 1 16 = size
  · have hlo : loadOf (ps.map (·.2)) work size = (loadN (ps.map (·.2)) work size 8, 0) := by unfold loadOf; rw [if_pos ht]
    rw [hlo]
    simp only
    have hs := (within_iff size).1 ht
    have hs1 : ¬ size < 1 := by omega
    have hs2 : ¬ 16 < size := by omega
    generalize hrr : loadN (ps.map (·.2)) work size 8 = r
    have HRR := Lib.hid hrr
    clear ht hlo hrr
    go_enter Tryz.func32, Tryz.ntmps32
    go_wp2_with fail
    go_loopg [9, 10, 11] 8 (fun gk s9 s10 s11 wr => ∃ (i : Nat), s11 = .int .i64 i ∧ s9 = .int .i64 (loadN (ps.map (·.2)) work size i).1 ∧ s10 = .int .i64 (loadN (ps.map (·.2)) work size i).2 ∧ i ≤ 8 ∧ 8 - i ≤ gk ∧ Hid (Below w.heap.size w wr))
    case atStart => exact ⟨0, rfl, rfl, rfl, Nat.zero_le _, Nat.le_refl _, Below.refl _ _⟩
    case round =>
      obtain ⟨i, rfl, rfl, rfl, hi, hg, HX⟩ := hrel
      by_cases hlt : i < 8
      · have hltz : (i : Int) < 8 := by omega
        have hm := HM.out i wr (HE.out.below HX.out (Nat.le_refl _))
        have hst : loadN (ps.map (·.2)) work size (i + 1) = loadStep (ps.map (·.2)) work size (loadN (ps.map (·.2)) work size i) i := rfl
        unfold loadStep at hst
        have hbd := loadN_bd (ps.map (·.2)) work size i
        generalize meanOf (winOf (ps.map (·.2)) work i size) = mm at *
        generalize loadN (ps.map (·.2)) work size i = q at *
        generalize hq2 : loadN (ps.map (·.2)) work size (i + 1) = q2 at *
        have HQ2 := Lib.hid hq2
        have HMM := Lib.hid hm
        have HST := Lib.hid hst
        clear hm hst hq2
        obtain ⟨hb1, hb2⟩ := hbd
        by_cases hok : (mm.2 == 0) = true
        · have had := refAdd_any q.1 mm.1
          have hqe : q2 = (satAdd q.1 mm.1, q.2 + 1) := by rw [HST.out, if_pos (by simpa using hok)]
          have HAD := Lib.hid had
          have HQE := Lib.hid hqe
          clear had hqe
          go_wp2_with fail
          refine HMM.out.mono ?_
          rintro e w1 ⟨rfl, hb⟩
          have HB := Lib.hid hb
          clear hb
          go_wp2_with fail
          refine (HAD.out _).mono ?_
          rintro e w' ⟨rfl, rfl⟩
          go_wp2_with fail
          go_roundg (8 - (i + 1))
          case measure => omega
          case rel => exact ⟨i + 1, by go_num, by rw [HQ2.out, HQE.out], by rw [HQ2.out, HQE.out], by omega, Nat.le_refl _, HX.out.trans (HB.out.mono HX.out.size)⟩
        · have hok' : (mm.2 == 0) = false := by simpa using hok
          have hqe : q2 = q := by rw [HST.out, if_neg (by simpa using hok)]
          have HQE := Lib.hid hqe
          clear hqe hok
          go_wp2_with fail
          refine HMM.out.mono ?_
          rintro e w1 ⟨rfl, hb⟩
          have HB := Lib.hid hb
          clear hb
          go_wp2_with fail
          go_roundg (8 - (i + 1))
          case measure => omega
          case rel => exact ⟨i + 1, by go_num, by rw [HQ2.out, HQE.out], by rw [HQ2.out, HQE.out], by omega, Nat.le_refl _, HX.out.trans (HB.out.mono HX.out.size)⟩
      · have hltz : ¬ (i : Int) < 8 := by omega
        obtain rfl : i = 8 := by omega
        rw [HRR.out]
        go_wp2_with fail
        go_ret3
        exact ⟨rfl, HX.out⟩
  · have hlo : loadOf (ps.map (·.2)) work size = ((0, 0), 2) := by unfold loadOf; rw [if_neg ht]
    rw [hlo]
    simp only
    have hd : size < 1 ∨ (¬ size < 1 ∧ 16 < size) := by rw [within_iff] at ht; omega
    clear ht hlo
    rcases hd with h1 | ⟨h1, h2⟩
    all_goals
      go_enter Tryz.func32, Tryz.ntmps32
      go_wp2_with fail
      go_ret3
      exact ⟨rfl, Below.refl _ _⟩
end Go.Proofs.YtjgbflclhkeibaaGreat
