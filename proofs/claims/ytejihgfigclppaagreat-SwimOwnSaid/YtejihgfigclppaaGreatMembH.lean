/-
  The table hears a word; what it knows of a node.
-/
import Derived.Test.YtejihgfigclppaaGreatMemb
import Derived.Deep.DeepCutAuto
namespace Go.Proofs.YtejihgfigclppaaGreat
open Go.Shelf Go.RowKit Go.Lib Go.Sort
set_option linter.unusedVariables false
set_option linter.unusedSimpArgs false
set_option maxRecDepth 100000 in
set_option maxHeartbeats 8000000 in
theorem hearTab_any (b : Nat) (self : Int) (t : Tab) (m : Mb) (w : World) (h : TabAt w b self t) :
    Calls Tryz.prog 70 #[.pointer (some ⟨b, 0, none⟩), .agg #[.int .i64 m.node, .int .i64 m.st, .int .i64 m.inc]] w fun e w' => ∃ z : Int, e = .returned (.tuple #[.bool (decide m.may && newsT t m), .int .i64 z]) ∧ (m.may → z = 0) ∧ (¬ m.may → z = 2) ∧ TabAt w' b self (hearT t m) ∧ w.grownBy w' (some b) := by
  have hlt := h.lt
  have hMW := mayW_any m
  obtain ⟨n, s, i⟩ := m
  dsimp only at *
  have hm2 := (alloc2 w (.cells #[.int .i64 n, .int .i64 s, .int .i64 i] 45) (.cells #[.int .i64 n, .int .i64 s, .int .i64 i] 132)).2.1
  obtain ⟨r0, r1, hb2, hs2⟩ := alloc2 w (.cells #[.int .i64 n, .int .i64 s, .int .i64 i] 45) (.cells #[.int .i64 n, .int .i64 s, .int .i64 i] 132)
  have hT := h.keep (hb2.block b hlt)
  have HMW := Lib.hid hMW
  have HT := Lib.hid hT
  have HB2 := Lib.hid hb2
  have hl1 := fun (k : Nat) => cell_of_row _ (w.heap.size + 1) k _ _ _ r1
  have HR1 := Lib.hid r1
  clear hMW hT hb2 r0 hm2 h r1
  cases hmay : decide (Mb.may ⟨n, s, i⟩) with
  | false =>
    have HM := Lib.hid hmay
    simp only [hmay] at HMW
    clear hmay
    go_enter Tryz.func70, Tryz.ntmps70
    go_wp2_with fail
    refine (HMW.out _).mono ?_
    rintro e w3 ⟨rfl, hg3⟩
    go_wp2_with fail
    go_ret2
    have hnm : ¬ Mb.may ⟨n, s, i⟩ := of_decide_eq_false HM.out
    have hb3 := hg3.below
    refine ⟨2, rfl, fun hh => absurd hh hnm, fun _ => rfl, ?_, ?_⟩
    · have e : hearT t ⟨n, s, i⟩ = t := if_neg fun hh => hnm hh.1
      rw [e]
      exact HT.out.keep (hb3.block b (by omega))
    · exact gb_below (World.grownBy.refl w _) (HB2.out.trans (hb3.mono HB2.out.size)) (Nat.le_refl _)
  | true =>
    have hm : Mb.may ⟨n, s, i⟩ := of_decide_eq_true hmay
    have HMAY := Lib.hid hm
    obtain ⟨k, rfl⟩ : ∃ k : Nat, n = (k : Int) := ⟨n.toNat, by have : (0 : Int) ≤ n := hm.1; omega⟩
    have hk : k < 8 := by have : (k : Int) ≤ 7 := hm.2.1; omega
    have hkz : (k : Int) < 8 := by omega
    simp only [hmay] at HMW
    clear hmay hm
    go_enter Tryz.func70, Tryz.ntmps70
    go_wp2_with fail
    refine (HMW.out _).mono ?_
    rintro e w3 ⟨rfl, hg3⟩
    have hb3 := hg3.below
    have hT3 := HT.out.keep (hb3.block b (by omega))
    have hl3 := fun (j : Nat) => (hb3.cell (p := ⟨w.heap.size + 1, j, none⟩) (by show w.heap.size + 1 < _; omega)).trans (hl1 j)
    have HB3 := Lib.hid (HB2.out.trans (hb3.mono HB2.out.size))
    have hs3 : w.heap.size + 2 ≤ w3.heap.size := by have := hb3.size; omega
    have q0 := hl3 0
    have q1 := hl3 1
    have q2 := hl3 2
    simp only [List.getElem?_toArray, List.getElem?_cons_zero, List.getElem?_cons_succ] at q0 q1 q2
    clear hl1 hl3 hb3 hg3 HMW hs2 HT HB2
    generalize (w.alloc (.cells #[.int .i64 k, .int .i64 s, .int .i64 i] 45)).alloc (.cells #[.int .i64 k, .int .i64 s, .int .i64 i] 132) = wx at *
    have k0 := (hT3.cell (1 + k)).trans (tcells_known self t hk)
    have k1 := (hT3.cell (9 + k * 3)).trans (tcells_node self t hk)
    have k2 := (hT3.cell (9 + k * 3 + 1)).trans (tcells_st self t hk)
    have k3 := (hT3.cell (9 + k * 3 + 2)).trans (tcells_inc self t hk)
    unfold knB at k0
    unfold wN at k1
    unfold wS at k2
    unfold wI at k3
    have HT3 := Lib.hid hT3
    clear hT3
    cases htk : t k with
    | none =>
      rw [htk] at k0 k1 k2 k3
      simp only [Option.isSome_none, Option.map_none, Option.getD_none, Bool.false_eq_true, if_false] at k0 k1 k2 k3
      have hp : Tryz.prog.follows .mixedOrders = true := by kernel_rfl
      have hnw : newsT t ⟨(k : Int), s, i⟩ = true := by unfold newsT; rw [show (Mb.node ⟨(k : Int), s, i⟩).toNat = k from Int.toNat_natCast k, htk]
      go_wp2_with fail
      go_quiet (fail)
      go_wp2_with fail
      have hg4 : Grew w3 (w3.drewN nq) := ⟨nq, #[], by rw [grow_empty]⟩
      have hb4 := hg4.below
      have hT4 := HT3.out.keep (hb4.block b HT3.out.lt)
      have u0 := (hb4.cell (p := ⟨b, 1 + k, none⟩) HT3.out.lt).trans k0
      have u1 := (hb4.cell (p := ⟨b, 9 + k * 3, none⟩) HT3.out.lt).trans k1
      have u2 := (hb4.cell (p := ⟨b, 9 + k * 3 + 1, none⟩) HT3.out.lt).trans k2
      have u3 := (hb4.cell (p := ⟨b, 9 + k * 3 + 2, none⟩) HT3.out.lt).trans k3
      have p0 := (hb4.cell (p := ⟨w.heap.size + 1, 0, none⟩) (by show w.heap.size + 1 < _; omega)).trans q0
      have p1 := (hb4.cell (p := ⟨w.heap.size + 1, 1, none⟩) (by show w.heap.size + 1 < _; omega)).trans q1
      have p2 := (hb4.cell (p := ⟨w.heap.size + 1, 2, none⟩) (by show w.heap.size + 1 < _; omega)).trans q2
      have HT4 := Lib.hid hT4
      have HB4 := Lib.hid (HB3.out.trans (hb4.mono HB3.out.size))
      have f0 := hT4.frozen (1 + k)
      have f1 := hT4.frozen (9 + k * 3)
      have f2 := hT4.frozen (9 + k * 3 + 1)
      have f3 := hT4.frozen (9 + k * 3 + 2)
      clear hg4 hb4 hT4 HT3 HB3 k0 k1 k2 k3 q0 q1 q2
      generalize w3.drewN nq = w4 at *
      have hfin : TabAt (((((w4.setCell ⟨b, 1 + k, none⟩ (.bool true)).setCell ⟨b, 9 + k * 3, none⟩ (.int .i64 (k : Int))).setCell ⟨b, 9 + k * 3 + 1, none⟩ (.int .i64 s)).setCell ⟨b, 9 + k * 3 + 2, none⟩ (.int .i64 i)).drew) b self (updT t k ⟨s, i⟩) ∧ w.grownBy (((((w4.setCell ⟨b, 1 + k, none⟩ (.bool true)).setCell ⟨b, 9 + k * 3, none⟩ (.int .i64 (k : Int))).setCell ⟨b, 9 + k * 3 + 1, none⟩ (.int .i64 s)).setCell ⟨b, 9 + k * 3 + 2, none⟩ (.int .i64 i)).drew) (some b) := by
        have h0 : TabAt w4 b self t := HT4.out
        refine ⟨h0.set hk ⟨s, i⟩, ?_⟩
        have g0 : w.grownBy w4 (some b) := gb_below (World.grownBy.refl w (some b)) HB4.out (Nat.le_refl _)
        exact gb_then (gb_then (gb_then (gb_then (gb_then g0 (gb_set _ b _ _) fun j hj => .inr hj) (gb_set _ b _ _) fun j hj => .inr hj) (gb_set _ b _ _) fun j hj => .inr hj) (gb_set _ b _ _) fun j hj => .inr hj) (gb_drew _ (some b)) fun j hj => .inr hj
      have HF := Lib.hid hfin
      have hnews : hearT t ⟨(k : Int), s, i⟩ = updT t k ⟨s, i⟩ := if_pos ⟨HMAY.out, hnw⟩
      have HNW := Lib.hid hnw
      have HNE := Lib.hid hnews
      clear hfin HT4 hnews hnw
      go_region_law (fail)
      all_goals (go_wp2_with fail; go_ret2; exact ⟨0, by rw [HNW.out]; rfl, fun _ => rfl, fun hh => absurd HMAY.out hh, by rw [HNE.out]; exact HF.out.1, HF.out.2⟩)
    | some wd =>
      rw [htk] at k0 k1 k2 k3
      simp only [Option.isSome_some, Option.map_some, Option.getD_some, if_true] at k0 k1 k2 k3
      have hp : Tryz.prog.follows .mixedOrders = true := by kernel_rfl
      have hcm := fun W => compareW_any (k : Int) (k : Int) ⟨s, i⟩ wd W
      have hz := cmpW_pos ⟨s, i⟩ wd
      have hnt : newsT t ⟨(k : Int), s, i⟩ = decide ((⟨s, i⟩ : Wd).beats wd) := by unfold newsT; rw [show (Mb.node ⟨(k : Int), s, i⟩).toNat = k from Int.toNat_natCast k, htk]
      generalize cmpW ⟨s, i⟩ wd = z at *
      have HCM := Lib.hid hcm
      clear hcm
      have hlx : w.heap.size + 1 < w3.heap.size := by omega
      have hlb := HT3.out.lt
      have c0 := cell_grown (o := 1 + k) hlb k0
      have c1 := cell_grown (o := 9 + k * 3) hlb k1
      have c2 := cell_grown (o := 9 + k * 3 + 1) hlb k2
      have c3 := cell_grown (o := 9 + k * 3 + 2) hlb k3
      have d0 := cell_grown (o := 0) hlx q0
      have d1 := cell_grown (o := 1) hlx q1
      have d2 := cell_grown (o := 2) hlx q2
      by_cases hb : (⟨s, i⟩ : Wd).beats wd
      · have hz1 : ¬ z ≤ 0 := Int.not_le.2 (hz.2 hb)
        have hnw : newsT t ⟨(k : Int), s, i⟩ = true := by rw [hnt]; exact decide_eq_true hb
        clear hnt hz
        go_wp2_with fail
        go_quiet_grown (first | (go_at_call 104; refine Calls.grown_of (HCM.out _)))
        go_wp2_with fail
        clear c0 c1 c2 c3 d0 d1 d2
        have hg4 : Grew w3 (grow (w3.drewN nq) osq) := ⟨nq, osq, rfl⟩
        have hb4 := hg4.below
        have hT4 := HT3.out.keep (hb4.block b HT3.out.lt)
        have u0 := (hb4.cell (p := ⟨b, 1 + k, none⟩) HT3.out.lt).trans k0
        have u1 := (hb4.cell (p := ⟨b, 9 + k * 3, none⟩) HT3.out.lt).trans k1
        have u2 := (hb4.cell (p := ⟨b, 9 + k * 3 + 1, none⟩) HT3.out.lt).trans k2
        have u3 := (hb4.cell (p := ⟨b, 9 + k * 3 + 2, none⟩) HT3.out.lt).trans k3
        have p0 := (hb4.cell (p := ⟨w.heap.size + 1, 0, none⟩) (by show w.heap.size + 1 < _; omega)).trans q0
        have p1 := (hb4.cell (p := ⟨w.heap.size + 1, 1, none⟩) (by show w.heap.size + 1 < _; omega)).trans q1
        have p2 := (hb4.cell (p := ⟨w.heap.size + 1, 2, none⟩) (by show w.heap.size + 1 < _; omega)).trans q2
        have HT4 := Lib.hid hT4
        have HB4 := Lib.hid (HB3.out.trans (hb4.mono HB3.out.size))
        have f0 := hT4.frozen (1 + k)
        have f1 := hT4.frozen (9 + k * 3)
        have f2 := hT4.frozen (9 + k * 3 + 1)
        have f3 := hT4.frozen (9 + k * 3 + 2)
        clear hg4 hb4 hT4 HT3 HB3 k0 k1 k2 k3 q0 q1 q2
        generalize grow (w3.drewN nq) osq = w4 at *
        have hfin : TabAt (((((w4.setCell ⟨b, 1 + k, none⟩ (.bool true)).setCell ⟨b, 9 + k * 3, none⟩ (.int .i64 (k : Int))).setCell ⟨b, 9 + k * 3 + 1, none⟩ (.int .i64 s)).setCell ⟨b, 9 + k * 3 + 2, none⟩ (.int .i64 i)).drew) b self (updT t k ⟨s, i⟩) ∧ w.grownBy (((((w4.setCell ⟨b, 1 + k, none⟩ (.bool true)).setCell ⟨b, 9 + k * 3, none⟩ (.int .i64 (k : Int))).setCell ⟨b, 9 + k * 3 + 1, none⟩ (.int .i64 s)).setCell ⟨b, 9 + k * 3 + 2, none⟩ (.int .i64 i)).drew) (some b) := by
          have h0 : TabAt w4 b self t := HT4.out
          refine ⟨h0.set hk ⟨s, i⟩, ?_⟩
          have g0 : w.grownBy w4 (some b) := gb_below (World.grownBy.refl w (some b)) HB4.out (Nat.le_refl _)
          exact gb_then (gb_then (gb_then (gb_then (gb_then g0 (gb_set _ b _ _) fun j hj => .inr hj) (gb_set _ b _ _) fun j hj => .inr hj) (gb_set _ b _ _) fun j hj => .inr hj) (gb_set _ b _ _) fun j hj => .inr hj) (gb_drew _ (some b)) fun j hj => .inr hj
        have HF := Lib.hid hfin
        have hnews : hearT t ⟨(k : Int), s, i⟩ = updT t k ⟨s, i⟩ := if_pos ⟨HMAY.out, hnw⟩
        have HNW := Lib.hid hnw
        have HNE := Lib.hid hnews
        clear hfin HT4 hnews hnw
        go_region_law (fail)
        all_goals (go_wp2_with fail; go_ret2; exact ⟨0, by rw [HNW.out]; rfl, fun _ => rfl, fun hh => absurd HMAY.out hh, by rw [HNE.out]; exact HF.out.1, HF.out.2⟩)
      · have hz1 : z ≤ 0 := Int.not_lt.1 fun h => hb (hz.1 h)
        have hnw : newsT t ⟨(k : Int), s, i⟩ = false := by rw [hnt]; exact decide_eq_false hb
        clear hnt hz
        have HT3 := HT3
        have HNW := Lib.hid hnw
        clear hnw
        go_wp2_with fail
        go_quiet_grown (first | (go_at_call 104; refine Calls.grown_of (HCM.out _)))
        go_wp2_with fail
        go_ret2
        have hg4 : Grew w3 (grow (w3.drewN nq) osq) := ⟨nq, osq, rfl⟩
        have hb4 := hg4.below
        have e : hearT t ⟨(k : Int), s, i⟩ = t := if_neg fun hh => by rw [HNW.out] at hh; exact absurd hh.2 (by decide)
        exact ⟨0, by rw [HNW.out]; rfl, fun _ => rfl, fun hh => absurd HMAY.out hh, by rw [e]; exact HT3.out.keep (hb4.block b HT3.out.lt), gb_below (World.grownBy.refl w _) (HB3.out.trans (hb4.mono HB3.out.size)) (Nat.le_refl _)⟩
end Go.Proofs.YtejihgfigclppaaGreat
