/-
  The law WindowLoads walked: it returns true, and turns nothing that was there.
-/
import Derived.Test.YtfbbafmklahmmaaRefMean
import Derived.Test.YtfbbafmklahmmaaAlive10
import Derived.Test.YtfbbafmklahmmaaAll07
import Derived.Test.YtfbbafmklahmmaaOpenEv
namespace Go.Proofs.Ytfbbafmklahmmaa
open Go.Shelf Go.RowKit Go.Lib Go.Sort
set_option linter.unusedVariables false
theorem rems_le {ps qs : List PEv} (h : qs.map (·.2) = ps.map (·.2)) (hr : ∀ p ∈ ps, p.2.rem.length ≤ 1000000) : ∀ p ∈ qs, p.2.rem.length ≤ 1000000 := fun p hp => by
  have h1 : p.2 ∈ qs.map (·.2) := List.mem_map_of_mem hp
  rw [h] at h1
  obtain ⟨z, hz, he⟩ := List.mem_map.1 h1
  rw [← he]
  exact hr z hz
theorem win_rems {ps qs : List PEv} {work node size : Int} (h : qs.map (·.2) = winOf (ps.map (·.2)) work node size) (hr : ∀ p ∈ ps, p.2.rem.length ≤ 1000000) : ∀ p ∈ qs, p.2.rem.length ≤ 1000000 := fun p hp => by
  have h1 : p.2 ∈ qs.map (·.2) := List.mem_map_of_mem hp
  rw [h] at h1
  have h2 := (List.mem_filter.1 ((stSort_mem swo_newerE _ _).1 (List.mem_of_mem_take h1))).1
  obtain ⟨z, hz, he⟩ := List.mem_map.1 h2
  rw [← he]
  exact hr z hz
set_option maxRecDepth 100000 in
set_option maxHeartbeats 8000000 in
theorem lawLoads (oa : Option Addr) (cap : Nat) (ps : List PEv) (work node size : Int) (w : World) (h : EvsAt w (.slice oa ps.length cap) ps) (hl : ps.length ≤ 1099511627776) (hf : ∀ p ∈ ps, p.2.fits) :
    Calls Try.prog 3 #[.agg #[.slice oa ps.length cap, .int .i64 work, .int .i64 node, .int .i64 size]] w fun e w' => e = .returned (.bool true) ∧ RowKit.Below w.heap.size w w' := by
  have HE := Lib.hid h
  have AL := Lib.hid alive10
  have hgr := fun W (hE : EvsAt W (.slice oa ps.length cap) ps) => great_any oa cap ps W hE hl (fun p hp => (hf p hp).2.2.2.2.2.2.2)
  have HGR := Lib.hid hgr
  clear h hgr hf
  go_enter Try.func3, Try.ntmps3
  go_wp2_with fail
  refine (AL.out _).mono ?_
  rintro e w1 ⟨rfl, hb1⟩
  obtain ⟨hcell, hfr⟩ := bcell hb1
  have hz1 : w.heap.size < w1.heap.size := by have := hb1.size; simp at this; omega
  have hB1 : RowKit.Below w.heap.size w w1 := ((RowKit.Below.refl _ _).alloc (Nat.le_refl _) _).trans (hb1.mono (by simp))
  have HB1 := Lib.hid hB1
  clear hb1 hB1
  go_wp2_with fail
  go_quiet (fail)
  have hB2 : RowKit.Below w.heap.size w (w1.drewN nq) := HB1.out.trans ⟨rfl, rfl, rfl, Nat.le_refl _, fun _ _ => rfl⟩
  clear hcell hfr hz1 HB1
  generalize w1.drewN nq = w2 at *
  have HE2 := Lib.hid (HE.out.below hB2 (Nat.le_refl _))
  have HB2 := Lib.hid hB2
  clear hB2
  go_wp2_with fail
  refine (HGR.out _ HE2.out).mono ?_
  rintro e w3 ⟨rfl, hb3⟩
  have HE3 := Lib.hid (HE2.out.below hb3 (Nat.le_refl _))
  have HB3 := Lib.hid (HB2.out.trans (hb3.mono HB2.out.size))
  clear hb3 HE2 HB2
  by_cases hbk : 3000 < bulk (ps.map (·.2))
  · rw [decide_eq_true hbk]
    go_wp2_with fail
    go_ret
    exact ⟨rfl, HB3.out⟩
  rw [decide_eq_false hbk]
  by_cases h300 : (300 : Int) < (ps.length : Int)
  · go_wp2_with fail
    go_ret
    exact ⟨rfl, HB3.out⟩
  have hpl : ps.length ≤ 300 := by omega
  have hrem : ∀ p ∈ ps, p.2.rem.length ≤ 1000000 := fun p hp => by
    have := bulk_mem (ps.map (·.2)) p.2 (List.mem_map_of_mem hp)
    omega
  have HREM := Lib.hid hrem
  have hcp := copies_any oa cap ps w3 HE3.out (by omega) hrem
  have HCP := Lib.hid hcp
  clear hrem hbk hcp
  go_wp2_with fail
  refine HCP.out.mono ?_
  rintro e w4 ⟨oq, cq, qs, rfl, hql, hqm, hacc, hb4⟩
  have HE4 := Lib.hid (HE3.out.below hb4 (Nat.le_refl _))
  have HB4 := Lib.hid (HB3.out.trans (hb4.mono HB3.out.size))
  have hI4 : EvsAt w4 (.slice oq qs.length cq) qs := by rw [hql]; exact hacc.evs
  have HI4 := Lib.hid hI4
  have HQM := Lib.hid hqm
  have hrq := rems_le hqm HREM.out
  have HRQ := Lib.hid hrq
  have hof := of_any oq cq qs work node size w4 HI4.out (by omega) HRQ.out
  rw [hql] at hof
  have HQL := Lib.hid hql
  clear hb4 hacc hI4 hqm hrq HCP HE3 HB3 hql
  have HOF := Lib.hid hof
  clear hof
  go_wp2_with fail
  refine HOF.out.mono ?_
  rintro e w5 ⟨v5, q5, rfl, hn5, hm5, hacc5, hb5⟩
  have hq5 : q5.length ≤ 1000000 := by have := HQL.out; omega
  obtain ⟨o5, c5, rfl⟩ := slAt_slice hacc5.row.at
  have HE5 := Lib.hid (HE4.out.below hb5 (Nat.le_refl _))
  have HI5 := Lib.hid (HI4.out.below hb5 (Nat.le_refl _))
  have HB5 := Lib.hid (HB4.out.trans (hb5.mono HB4.out.size))
  have HA5 := Lib.hid hacc5.evs
  have HM5 := Lib.hid hm5
  clear hb5 hacc5 hm5 HE4 HI4 HB4 HOF hn5
  have hro := refOf_any oa cap ps work node size w5 HE5.out (by omega) HREM.out
  have HRO := Lib.hid hro
  clear hro
  go_wp2_with fail
  refine HRO.out.mono ?_
  rintro e w6 ⟨v6, q6, rfl, hn6, hm6, hacc6, hb6⟩
  obtain ⟨o6, c6, hv6⟩ := slAt_slice hacc6.row.at
  have heq : q5.map (·.2) = q6.map (·.2) := by rw [HM5.out, hm6, HQM.out]
  have hlen : q6.length = q5.length := by have := congrArg List.length heq; simpa using this.symm
  rw [hlen] at hv6
  subst hv6
  have HE6 := Lib.hid (HE5.out.below hb6 (Nat.le_refl _))
  have HI6 := Lib.hid (HI5.out.below hb6 (Nat.le_refl _))
  have HB6 := Lib.hid (HB5.out.trans (hb6.mono HB5.out.size))
  have hall := all_any o5 o6 c5 c6 q5 q6 w6 (HA5.out.below hb6 (Nat.le_refl _)) hacc6.evs heq hq5 (win_rems HM5.out HRQ.out)
  have HALL := Lib.hid hall
  clear hb6 hacc6 hm6 heq hall HE5 HI5 HB5 HA5 HM5 HRO hlen hn6
  go_wp2_with fail
  refine HALL.out.mono ?_
  rintro e w7 ⟨rfl, hg7⟩
  have HE7 := Lib.hid (HE6.out.below hg7.below (Nat.le_refl _))
  have HI7 := Lib.hid (HI6.out.below hg7.below (Nat.le_refl _))
  have HB7 := Lib.hid (HB6.out.trans (hg7.below.mono HB6.out.size))
  clear hg7 HE6 HI6 HB6 HALL
  have hm8 := mean_any oq cq qs work node size w7 HI7.out (by rw [HQL.out]; omega) HRQ.out
  rw [HQM.out, HQL.out] at hm8
  generalize hmm : meanOf (winOf (ps.map (·.2)) work node size) = mm at hm8
  have HMM := Lib.hid hmm
  have HM8 := Lib.hid hm8
  clear hm8 hmm
  go_wp2_with fail
  refine HM8.out.mono ?_
  rintro e w8 ⟨rfl, hb8⟩
  have HE8 := Lib.hid (HE7.out.below hb8 (Nat.le_refl _))
  have HI8 := Lib.hid (HI7.out.below hb8 (Nat.le_refl _))
  have HB8 := Lib.hid (HB7.out.trans (hb8.mono HB7.out.size))
  clear hb8 HE7 HI7 HB7 HM8
  have hm9 := refMean_any oa cap ps work node size w8 HE8.out (by omega) HREM.out
  rw [HMM.out] at hm9
  have HM9 := Lib.hid hm9
  clear hm9
  go_wp2_with fail
  refine HM9.out.mono ?_
  rintro e w9 ⟨rfl, hb9⟩
  have HE9 := Lib.hid (HE8.out.below hb9 (Nat.le_refl _))
  have HI9 := Lib.hid (HI8.out.below hb9 (Nat.le_refl _))
  have HB9 := Lib.hid (HB8.out.trans (hb9.mono HB8.out.size))
  clear hb9 HE8 HI8 HB8 HM9
  have hm10 := load_any oq cq qs work size w9 HI9.out (by rw [HQL.out]; omega) HRQ.out
  rw [HQM.out, HQL.out] at hm10
  generalize hrr : loadOf (ps.map (·.2)) work size = r at hm10
  have HRR := Lib.hid hrr
  have HM10 := Lib.hid hm10
  clear hm10 hrr
  go_wp2_with fail
  refine HM10.out.mono ?_
  rintro e w10 ⟨rfl, hb10⟩
  have HE10 := Lib.hid (HE9.out.below hb10 (Nat.le_refl _))
  have HI10 := Lib.hid (HI9.out.below hb10 (Nat.le_refl _))
  have HB10 := Lib.hid (HB9.out.trans (hb10.mono HB9.out.size))
  clear hb10 HE9 HI9 HB9 HM10
  have hm11 := refLoad_any oa cap ps work size w10 HE10.out (by omega) HREM.out
  rw [HRR.out] at hm11
  have HM11 := Lib.hid hm11
  clear hm11
  go_wp2_with fail
  refine HM11.out.mono ?_
  rintro e w11 ⟨rfl, hb11⟩
  have HE11 := Lib.hid (HE10.out.below hb11 (Nat.le_refl _))
  have HI11 := Lib.hid (HI10.out.below hb11 (Nat.le_refl _))
  have HB11 := Lib.hid (HB10.out.trans (hb11.mono HB10.out.size))
  clear hb11 HE10 HI10 HB10 HM11
  have hall2 := all_any oq oa cq cap qs ps w11 HI11.out (by rw [HQL.out]; exact HE11.out) HQM.out (by rw [HQL.out]; omega) HRQ.out
  rw [HQL.out] at hall2
  have HALL2 := Lib.hid hall2
  clear hall2
  go_wp2_with fail
  refine HALL2.out.mono ?_
  rintro e w12 ⟨rfl, hg12⟩
  have HB12 := Lib.hid (HB11.out.trans (hg12.below.mono HB11.out.size))
  clear hg12 HALL2
  go_wp2_with fail
  go_ret
  exact ⟨rfl, HB12.out⟩
end Go.Proofs.Ytfbbafmklahmmaa
