/-
  decided: what is planned, and what was wished is remembered.
-/
import Derived.Test.YtjgbflclhkeibaaGreatActCool
import Derived.BigRegion
namespace Go.Proofs.YtjgbflclhkeibaaGreat
open Go.Shelf Go.RowKit Go.Lib Go.Sort
set_option linter.unusedVariables false
/-- how a decision ends: a plan, or it is as it was -/
def decE (plan now : Int) : Ending := if plan = now then .panicked [{ v := .iface 95 (.agg #[.int .i64 15]), recovered := false }] else .returned (.int .i64 plan)
theorem lastN_owns {base e : Nat} {W : World} {oa : Option Addr} {n cap : Nat} {l : List Int} (h : Owns icells 1 base e W (.slice oa n cap) l) (k : Nat) (hk : 1 ≤ k) (hl : l ≠ []) :
    ∃ g cc, n = l.length ∧ n ≤ cc ∧ cap = cc ∧ oa = some ⟨g, 0, none⟩ ∧ SlAt icells W (.slice (some ⟨g, l.length - k, none⟩) (min k l.length) (cc - (l.length - k))) (lastN k l) ∧ base ≤ g := by
  have hlen : n = l.length := by
    obtain ⟨oa', cap', hv, _⟩ := h.at
    simp only [Value.slice.injEq] at hv
    exact hv.2.1
  have hcap : n ≤ cap := by
    obtain ⟨oa', cap', hv, hc, _⟩ := h.at
    simp only [Value.slice.injEq] at hv
    omega
  subst hlen
  obtain ⟨g, off, rfl⟩ := h.at.plain icells_len (by decide) hl
  have hb := (h.lt g rfl).1
  have ho : off = 0 := by
    rcases h.2 with ⟨hv, hn⟩ | ⟨g', cap', cur, hv, _⟩
    · exact absurd (List.eq_nil_of_length_eq_zero hn) hl
    · simp only [Value.slice.injEq, Option.some.injEq, Addr.mk.injEq] at hv
      exact hv.1.2.1
  subst ho
  refine ⟨g, cap, rfl, hcap, rfl, rfl, ?_, hb⟩
  have hpos : 0 < l.length := List.length_pos_iff.2 hl
  have hs := h.at.sub icells_len (by decide) (l.length - k) l.length (by omega) (Nat.le_refl _)
  unfold sliced at hs
  rw [if_neg (by omega), List.take_length] at hs
  simp only [Option.map_some, Addr.add_lit, Nat.mul_one, Nat.zero_add] at hs
  have hm : l.length - (l.length - k) = min k l.length := by omega
  rw [hm] at hs
  exact hs
section
variable (b : Nat) (c : ACfg) (t l live : Value) (work now tick : Int) (p : Pol) (load : Int) (w : World)
set_option maxRecDepth 100000 in
set_option maxHeartbeats 4000000 in
theorem decided_any (n ab : Nat) (vs : Nat → Value) (ts : Nat → Trk) (hn : n < 8) (ht : t = .pointer (some ⟨ab, 4 + n * 3, none⟩)) (hne : b ≠ ab) (hp : p.right) (h0 : 0 ≤ now) (h1 : now ≤ 1000) (hk1 : 1 ≤ c.keep) (hk2 : c.keep ≤ 16) (h : QAt w b c t l live work now tick p load) (ha : AObj ab w c vs ts) :
    Calls Tryz.prog 28 #[.pointer (some ⟨b, 0, none⟩)] w fun e w' => e = decE (stableI (ts n).wished (stepI p load now) now) now ∧ ∃ v', AObj ab w' c (upd vs n v') (upd ts n ⟨lastN c.keep.toNat ((ts n).wished ++ [stepI p load now]), (ts n).written, (ts n).at'⟩) ∧ w.grownBy w' (some ab) ∧ ∀ k, v'.ownBlock = some k → w.heap.size ≤ k := by
  subst ht
  obtain ⟨hr, hvne, hlen⟩ := ha.row n hn
  obtain ⟨oa, cap, hv⟩ := slAt_slice hr
  rw [hv] at hr
  have hq : ∀ W, Below w.heap.size w W → W.cell? ⟨b, 2, none⟩ = some (.int .i64 c.keep) ∧ W.cell? ⟨b, 4, none⟩ = some (.pointer (some ⟨ab, 4 + n * 3, none⟩)) ∧ W.cell? ⟨b, 8, none⟩ = some (.int .i64 now) ∧ W.cell? ⟨b, 17, none⟩ = some (.int .i64 load) ∧ W.cell? ⟨ab, 4 + n * 3, none⟩ = some (.slice oa (ts n).wished.length cap) :=
    fun W hW => ⟨(h.below hW).cell 2, (h.below hW).cell 4, (h.below hW).cell 8, (h.below hW).cell 17, ((ha.below hW).cell _).trans ((acells_wished c vs ts hn).trans (by rw [hv]))⟩
  have hqp : ∀ W, Below w.heap.size w W → W.cell? ⟨b, 10, none⟩ = some (.int .i64 p.mn) ∧ W.cell? ⟨b, 11, none⟩ = some (.int .i64 p.mx) ∧ W.cell? ⟨b, 12, none⟩ = some (.int .i64 p.goal) ∧ W.cell? ⟨b, 13, none⟩ = some (.int .i64 p.slack) ∧ W.cell? ⟨b, 14, none⟩ = some (.int .i64 p.up) ∧ W.cell? ⟨b, 15, none⟩ = some (.int .i64 p.down) ∧ W.cell? ⟨b, 16, none⟩ = some (.int .i64 p.cool) :=
    fun W hW => ⟨(h.below hW).cell 10, (h.below hW).cell 11, (h.below hW).cell 12, (h.below hW).cell 13, (h.below hW).cell 14, (h.below hW).cell 15, (h.below hW).cell 16⟩
  obtain ⟨c2, c4, c8, c17, a0⟩ := hq w (Below.refl _ _)
  obtain ⟨c10, c11, c12, c13, c14, c15, c16⟩ := hqp w (Below.refl _ _)
  have hst : ∀ W, Below w.heap.size w W → Calls Tryz.prog 45 #[.agg #[.int .i64 p.mn, .int .i64 p.mx, .int .i64 p.goal, .int .i64 p.slack, .int .i64 p.up, .int .i64 p.down, .int .i64 p.cool], .int .i64 load, .int .i64 now] W fun e w' => e = .returned (.tuple #[.int .i64 (stepI p load now), .int .i64 0]) ∧ Below w.heap.size w w' :=
    fun W hW => (step_any p hp load now h0 h1 W).mono fun e w' ⟨he, hb⟩ => ⟨he, hW.trans (hb.mono hW.size)⟩
  obtain ⟨wish, hwish⟩ : ∃ x, x = stepI p load now := ⟨_, rfl⟩
  rw [← hwish] at hst ⊢
  have hsb : ∀ W, Below w.heap.size w W → Calls Tryz.prog 46 #[.slice oa (ts n).wished.length cap, .int .i64 wish, .int .i64 now] W fun e w' => e = .returned (.int .i64 (stableI (ts n).wished wish now)) ∧ Below w.heap.size w w' :=
    fun W hW => (decStable_any oa cap (ts n).wished wish now W (hr.below icells_len (by decide) hW (Nat.le_refl _)) (by omega)).mono fun e w' ⟨he, hb⟩ => ⟨he, hW.trans (hb.mono hW.size)⟩
  have hcl : ∀ W, Below w.heap.size w W → Calls Tryz.prog 36 #[.slice oa (ts n).wished.length cap] W fun e w' => ∃ v', e = .returned v' ∧ Ints W.heap.size w' v' (ts n).wished ∧ Below W.heap.size W w' :=
    fun W hW => clone_any oa cap (ts n).wished W (hr.below icells_len (by decide) hW (Nat.le_refl _)) (by omega)
  have hm1 := fun W => must_yes 0 W
  have hm2 := fun ok W => must_any ok 15 W
  obtain ⟨plan, hplan⟩ : ∃ x, x = stableI (ts n).wished wish now := ⟨_, rfl⟩
  rw [← hplan] at hsb ⊢
  have HM1 := Lib.hid hm1
  have HM2 := Lib.hid hm2
  have HST := Lib.hid hst
  have HSB := Lib.hid hsb
  have HCL := Lib.hid hcl
  have HQ := Lib.hid hq
  have HQP := Lib.hid hqp
  have HA := Lib.hid ha
  have HV := Lib.hid hv
  have hblt := h.lt
  have hablt := ha.lt
  clear hm1 hm2 hst hsb hcl hq hqp h ha hr hv hwish hplan hp
  go_enter Tryz.func28, Tryz.ntmps28
  go_wp2_with fail
  go_cut [3, 4] (fun s3 s4 wx => s3 = .int .i64 wish ∧ s4 = .int .i64 0 ∧ Hid (Below w.heap.size w wx))
  case first =>
    go_region_held (fun w' => (w'.cell? ⟨b, 8, none⟩ = some (.int .i64 now) ∧ w'.cell? ⟨b, 17, none⟩ = some (.int .i64 load)) ∧ w'.cell? ⟨b, 10, none⟩ = some (.int .i64 p.mn) ∧ w'.cell? ⟨b, 11, none⟩ = some (.int .i64 p.mx) ∧ w'.cell? ⟨b, 12, none⟩ = some (.int .i64 p.goal) ∧ w'.cell? ⟨b, 13, none⟩ = some (.int .i64 p.slack) ∧ w'.cell? ⟨b, 14, none⟩ = some (.int .i64 p.up) ∧ w'.cell? ⟨b, 15, none⟩ = some (.int .i64 p.down) ∧ w'.cell? ⟨b, 16, none⟩ = some (.int .i64 p.cool))
      (first | exact ⟨⟨(HQ.out _ (below_drew (Below.refl _ _))).2.2.1, (HQ.out _ (below_drew (Below.refl _ _))).2.2.2.1⟩, HQP.out _ (below_drew (Below.refl _ _))⟩ | exact ⟨⟨(HQ.out _ HB1.out).2.2.1, (HQ.out _ HB1.out).2.2.2.1⟩, HQP.out _ HB1.out⟩)
      (first | (go_at_call 45; refine (HST.out _ (below_drew (Below.refl _ _))).mono ?_; rintro e w1 ⟨rfl, hb1⟩; have HB1 := Lib.hid hb1; clear hb1))
    all_goals
      go_wp2_with fail
      go_meet
      exact ⟨rfl, rfl, HB1⟩
  case rest =>
    obtain ⟨rfl, rfl, HB1⟩ := hcut
    clear c10 c11 c12 c13 c14 c15 c16 HQP HST c17 c2 c4 c8 a0
    go_wp2_with fail
    refine (HM1.out _).mono ?_
    rintro e w1 ⟨rfl, rfl⟩
    go_wp2_with fail
    go_cut [5] (fun s5 wx => s5 = .int .i64 plan ∧ Hid (Below w.heap.size w wx))
    case first =>
      have hx := HQ.out _ (below_drew HB1.out)
      go_region_held (fun w' => w'.cell? ⟨b, 4, none⟩ = some (.pointer (some ⟨ab, 4 + n * 3, none⟩)) ∧ w'.cell? ⟨b, 8, none⟩ = some (.int .i64 now) ∧ w'.cell? ⟨ab, 4 + n * 3, none⟩ = some (.slice oa (ts n).wished.length cap))
        (first | exact ⟨(HQ.out _ (below_drew HB1.out)).2.1, (HQ.out _ (below_drew HB1.out)).2.2.1, (HQ.out _ (below_drew HB1.out)).2.2.2.2⟩ | exact ⟨(HQ.out _ HB2.out).2.1, (HQ.out _ HB2.out).2.2.1, (HQ.out _ HB2.out).2.2.2.2⟩)
        (first | (go_at_call 46; refine (HSB.out _ (below_drew HB1.out)).mono ?_; rintro e w2 ⟨rfl, hb2⟩; have HB2 := Lib.hid hb2; clear hb2))
      all_goals
        go_wp2_with fail
        go_meet
        exact ⟨rfl, HB2⟩
    case rest =>
      obtain ⟨rfl, HB2⟩ := hcut
      obtain ⟨c2, c4, c8, c17, a0⟩ := HQ.out _ HB2.out
      clear c17 c2 c8 HM1 HSB
      go_wp2_with fail
      refine (HCL.out _ HB2.out).mono ?_
      rintro e w3 ⟨v3, rfl, hi3, hb3⟩
      obtain ⟨o3, c3, rfl⟩ := slAt_slice hi3.at
      have HI3 := Lib.hid hi3
      have HBC3 := Lib.hid hb3
      have HB3 := Lib.hid (HB2.out.trans (hb3.mono HB2.out.size))
      clear hi3 hb3 c4 a0 HCL
      go_wp2_with (at_builtin; go_loud (refine wpList_appD icells 1 icells_len (by decide) icells_one _ rfl _ _ 37 rfl wc.heap.size 3 _ 8 Tryz.underlying37 infoInt rfl _ (ts n).wished rfl ?h1 _ [wish] rfl ?h2 ?h3 ?h4 ?h5 ?_))
      case h1 => exact HI3.out.below ((Below.refl _ _).alloc (Nat.le_refl _) _) (Nat.le_refl _)
      case h2 => exact slAt_new (enc := icells) w3 (icells wish).toArray 3 1 1 (0, 0) [wish] rfl rfl (by decide)
      case h3 => simp only [List.length_cons, List.length_nil]; omega
      case h4 => simp only [List.length_cons, List.length_nil]; omega
      case h5 => have := HBC3.out.size; simp; omega
      intro v4 w4 h4 hg4 hv4 hd4
      obtain ⟨o4, m4, rfl⟩ := slAt_slice h4.at
      obtain ⟨g4, cc4, hnl, hle, rfl, rfl, hsl, hbg⟩ := lastN_owns h4 c.keep.toNat (by omega) (by simp)
      have hb4 : Below wc.heap.size wc w4 := (HBC3.out.alloc HBC3.out.size (.cells (icells wish).toArray 3)).grown hg4 (by have := HBC3.out.size; simp; omega) fun k hk => (HI3.out.lt k hk).1
      have HB4 := Lib.hid (HB2.out.trans (hb4.mono HB2.out.size))
      have HSL := Lib.hid hsl
      have hg4b : w.heap.size ≤ g4 := Nat.le_trans HB2.out.size hbg
      obtain ⟨n4, hn4⟩ : ∃ n4, ((ts n).wished ++ [wish]).length = n4 := ⟨_, rfl⟩
      have hn4b : n4 = (ts n).wished.length + 1 := by rw [← hn4]; simp
      rw [hn4] at HSL hle ⊢
      clear h4 hg4 hv4 hd4 hnl hsl hb4 hbg HI3 HBC3
      obtain ⟨c2, c4, c8, c17, a0⟩ := HQ.out _ HB4.out
      obtain ⟨k4, hk4⟩ : ∃ k4, k4 = n4 - c.keep.toNat := ⟨_, rfl⟩
      rw [← hk4] at HSL
      have hfz : w4.frozen? ⟨ab, 4 + n * 3, none⟩ = false := (HA.out.below HB4.out).frozen _
      have hw1 : wrap64 ((n4 : Int) - c.keep) = (n4 : Int) - c.keep := by unfold wrap64; omega
      clear c17
      have hmx : max 0 ((n4 : Int) - c.keep) = (k4 : Int) := by omega
      have hk2 : k4 ≤ n4 := by omega
      have hk3 : k4 ≤ m4 := by omega
      have hk5 : ¬ m4 = k4 := by omega
      have hmin : min c.keep.toNat n4 = n4 - k4 := by omega
      rw [hmin] at HSL
      have hz : (lastN c.keep.toNat ((ts n).wished ++ [wish])).length ≤ 16 := by
        have := lastN_len c.keep.toNat ((ts n).wished ++ [wish])
        omega
      have hgab : g4 ≠ ab := by omega
      have hfin : ∃ v', AObj ab (w4.drew.setCell ⟨ab, 4 + n * 3, none⟩ (.slice (some ⟨g4, k4, none⟩) (n4 - k4) (m4 - k4))) c (upd vs n v') (upd ts n ⟨lastN c.keep.toNat ((ts n).wished ++ [wish]), (ts n).written, (ts n).at'⟩) ∧ w.grownBy (w4.drew.setCell ⟨ab, 4 + n * 3, none⟩ (.slice (some ⟨g4, k4, none⟩) (n4 - k4) (m4 - k4))) (some ab) ∧ ∀ k, v'.ownBlock = some k → w.heap.size ≤ k := by
        have hbd := below_drew HB4.out
        refine ⟨.slice (some ⟨g4, k4, none⟩) (n4 - k4) (m4 - k4), ⟨?_, fun m hm => ?_⟩, grown_setC ⟨hbd.os, hbd.tape, hbd.output, hbd.size, fun k hk _ => hbd.block k hk⟩ _, fun k hk => by simp [Value.ownBlock] at hk; omega⟩
        · rw [heap_setCell_same _ ab _ _ _ _ _ (HA.out.below hbd).heap, acells_setW c vs ts hn _ (lastN c.keep.toNat ((ts n).wished ++ [wish]))]
        · have hset : ∀ g, g ≠ ab → (w4.drew.setCell ⟨ab, 4 + n * 3, none⟩ (.slice (some ⟨g4, k4, none⟩) (n4 - k4) (m4 - k4))).heap[g]? = w4.heap[g]? := fun g hg => Below.heap_setCell _ _ _ g fun e => hg (by rw [e])
          by_cases hmn : m = n
          · subst hmn
            rw [upd_same, upd_same]
            exact ⟨HSL.out.keep (.inr fun g hg => hset g fun e => hgab (by simp [Value.ownBlock] at hg; omega)), by simp [Value.ownBlock]; exact hgab, hz⟩
          · rw [upd_other _ _ hmn, upd_other _ _ hmn]
            have hr := (HA.out.below HB4.out).row m hm
            exact ⟨hr.1.keep (.inr fun g hg => hset g fun e => hr.2.1 (by rw [hg, e])), hr.2⟩
      have hdr : (w4.setCell ⟨ab, 4 + n * 3, none⟩ (.slice (some ⟨g4, k4, none⟩) (n4 - k4) (m4 - k4))).drew = w4.drew.setCell ⟨ab, 4 + n * 3, none⟩ (.slice (some ⟨g4, k4, none⟩) (n4 - k4) (m4 - k4)) := rfl
      rw [← hdr] at hfin
      clear hdr
      have HFIN := Lib.hid hfin
      clear hn4 hn4b HSL hvne HQ HV hlen hk4 hmin hz hgab hfin HA HB4 hg4b
      generalize (ts n).wished.length = wl at *
      go_wp2_with fail
      go_region
      go_wp2_with fail
      refine (HM2.out _ _).mono ?_
      rintro e w5 ⟨rfl, rfl⟩
      by_cases hpn : plan = now
      · have hpb : (plan != now) = false := by simp [hpn]
        rw [hpb]
        simp only [askE, Bool.false_eq_true, if_false]
        go_wp2_with fail
        exact ⟨rfl, by show _ = decE plan now; unfold decE; rw [if_pos hpn], HFIN.out⟩
      · have hpb : (plan != now) = true := by simp [hpn]
        rw [hpb]
        simp only [askE, if_true]
        go_wp2_with fail
        go_ret
        exact ⟨by show _ = decE plan now; unfold decE; rw [if_neg hpn]; rfl, HFIN.out⟩
end
end Go.Proofs.YtjgbflclhkeibaaGreat
