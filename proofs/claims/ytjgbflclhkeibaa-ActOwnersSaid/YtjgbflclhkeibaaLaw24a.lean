/-
  ActOwners walked: of actuators of all live nodes with one Salt just one isn't told that it isn't the owner.
-/
import Derived.Test.YtjgbflclhkeibaaMAllP
import Derived.BigQuiet
import Derived.Deep.QuietTactic
namespace Go.Proofs.Ytjgbflclhkeibaa
open Go.Shelf Go.RowKit Go.Lib Go.Sort
set_option linter.unusedVariables false
def polO : Pol := ⟨0, 9, 10, 0, 2, 1, 0⟩
def boolCells (f : Nat → Bool) : Array Value := #[.bool (f 0), .bool (f 1), .bool (f 2), .bool (f 3), .bool (f 4), .bool (f 5), .bool (f 6), .bool (f 7)]
theorem boolCells_at (f : Nat → Bool) {n : Nat} (hn : n < 8) : (boolCells f)[n]? = some (.bool (f n)) := by
  rcases eight_cases hn with rfl | rfl | rfl | rfl | rfl | rfl | rfl | rfl <;> rfl
theorem boolCells_set (f : Nat → Bool) {n : Nat} (hn : n < 8) (b : Bool) : (boolCells f).setIfInBounds n (.bool b) = boolCells (upd f n b) := by
  rcases eight_cases hn with rfl | rfl | rfl | rfl | rfl | rfl | rfl | rfl <;> rfl
def anyIn (l : List Int) : Bool := l.any fun z => decide (0 ≤ z) && decide (z < 8)
theorem anyIn_snoc (l : List Int) (z : Int) : anyIn (l ++ [z]) = (anyIn l || (decide (0 ≤ z) && decide (z < 8))) := by simp [anyIn, List.any_append]
def ownsTo (x : Int × Int) (i : Nat) : Int := if x.2 = 0 ∧ x.1 < i then 1 else 0
theorem own_cases (live : List Int) (work salt : Int) : (∃ x, own (rk live work salt) = (x, 0) ∧ 0 ≤ x ∧ x < 8 ∧ x ∈ live ∧ anyIn live = true) ∨ (own (rk live work salt) = (0, 8) ∧ anyIn live = false) := by
  have hr := rk_ranks live work salt
  cases h : rk live work salt with
  | nil =>
    refine .inr ⟨rfl, ?_⟩
    unfold anyIn
    rw [List.any_eq_false]
    intro z hz hb
    rw [Bool.and_eq_true, decide_eq_true_eq, decide_eq_true_eq] at hb
    have := (hr.mem z).2 ⟨hb.1, hb.2, hz⟩
    rw [h] at this
    exact nomatch this
  | cons x l =>
    have hx := (hr.mem x).1 (by rw [h]; exact List.mem_cons_self ..)
    refine .inl ⟨x, rfl, hx.1, hx.2.1, hx.2.2, ?_⟩
    unfold anyIn
    rw [List.any_eq_true]
    exact ⟨x, hx.2.2, by rw [Bool.and_eq_true, decide_eq_true_eq, decide_eq_true_eq]; exact ⟨hx.1, hx.2.1⟩⟩
theorem planO (i k : Nat) (hi : i < 8) (salt load : Int) (live : List Int) (l0 : 0 ≤ load) (l1 : load ≤ 65535) :
    (own (rk live k salt) = ((i : Int), 0) → (planI ⟨i, 1, 1, salt⟩ Trk.none (knownE polO load k) live k 5 0).1.2 = 0 ∨ (planI ⟨i, 1, 1, salt⟩ Trk.none (knownE polO load k) live k 5 0).1.2 = 15) ∧
    (own (rk live k salt) ≠ ((i : Int), 0) → (planI ⟨i, 1, 1, salt⟩ Trk.none (knownE polO load k) live k 5 0).1.2 = 12) := by
  rw [planI_known ⟨i, 1, 1, salt⟩ (by unfold ACfg.right; simp; omega) Trk.none polO (by decide) load k 5 0 live l0 l1 (by omega) (by omega)]
  refine ⟨fun h => ?_, fun h => ?_⟩
  · rw [if_pos h, if_neg (by simp [tooEarly, Trk.none])]
    split
    · exact .inr rfl
    · exact .inl rfl
  · rw [if_neg h]
set_option maxRecDepth 100000 in
set_option maxHeartbeats 16000000 in
theorem actOwners_any (oa : Option Addr) (cap : Nat) (live : List Int) (salt work load : Int) (w : World) (hN : SlAt icells w (.slice oa live.length cap) live) (hs0 : 0 ≤ salt) (hs1 : salt < 18446744073709551616) (hw0 : 0 ≤ work) (hw1 : work ≤ 255) (l0 : 0 ≤ load) (l1 : load ≤ 65535) :
    Calls Try.prog 3 #[.agg #[.slice oa live.length cap, .int .u64 salt, .int .u8 work, .int .u16 load]] w fun e w' => e = .returned (.bool true) ∧ Below w.heap.size w w' := by
  have HN := Lib.hid hN
  have hal := fun W => alive24_any W
  have HAL := Lib.hid hal
  clear hal hN
  go_enter Try.func3, Try.ntmps3
  go_wp2_with fail
  refine (HAL.out _).mono ?_
  rintro e w1 ⟨rfl, hb1⟩
  have hrow : w1.heap[w.heap.size]? = some (.cells #[.slice oa live.length cap, .int .u64 salt, .int .u8 work, .int .u16 load] 26) := (hb1.block _ (by simp)).trans (heap_alloc_new w _)
  have m0 : w1.cell? ⟨w.heap.size, 0, none⟩ = some (.slice oa live.length cap) := cell_of_row _ _ 0 _ _ _ hrow
  have m1 : w1.cell? ⟨w.heap.size, 1, none⟩ = some (.int .u64 salt) := cell_of_row _ _ 1 _ _ _ hrow
  have m2 : w1.cell? ⟨w.heap.size, 2, none⟩ = some (.int .u8 work) := cell_of_row _ _ 2 _ _ _ hrow
  have m3 : w1.cell? ⟨w.heap.size, 3, none⟩ = some (.int .u16 load) := cell_of_row _ _ 3 _ _ _ hrow
  have HB1 := Lib.hid (((Below.refl w.heap.size w).alloc (Nat.le_refl _) (.cells #[.slice oa live.length cap, .int .u64 salt, .int .u8 work, .int .u16 load] 26)).trans (hb1.mono (by simp)))
  clear hb1 hrow
  go_wp2_with fail
  go_quiet (fail)
  by_cases h50 : 50 < live.length
  · have h50z : (live.length : Int) > 50 := by omega
    have h50b : decide ((live.length : Int) > 50) = true := decide_eq_true h50z
    go_wp2_with fail
    go_ret
    exact ⟨rfl, below_drewN' HB1.out _⟩
  · have h50z : (live.length : Int) ≤ 50 := by omega
    have h50b : decide ((live.length : Int) > 50) = false := decide_eq_false (by omega)
    obtain ⟨k, hk⟩ : ∃ k : Nat, work % 8 = (k : Int) := ⟨(work % 8).toNat, by omega⟩
    have hk8 : k < 8 := by omega
    have hk8z : (k : Int) < 8 := by omega
    have HB2 := Lib.hid (HB1.out.trans ((below_drewN w1 nq).mono HB1.out.size))
    clear m0 m1 m2 m3 HB1 HAL
    generalize w1.drewN nq = w2 at *
    go_wp2_with fail
    refine (known_any polO load w2).mono ?_
    rintro e w3 ⟨eb, rfl, heb, he3, hb3⟩
    have heblt : eb < w3.heap.size := (Array.getElem?_eq_some_iff.1 he3).1
    have HEV := Lib.hid he3
    have HB3 := Lib.hid (HB2.out.trans (hb3.mono HB2.out.size))
    have hweb : w.heap.size ≤ eb := Nat.le_trans HB2.out.size heb
    clear hb3 he3 HB2 heb
    go_wp2_with fail
    go_loopg [42] 2 (fun gk s42 wr => ∃ (i : Nat), s42 = .int .i64 i ∧ i ≤ 2 ∧ 2 - i ≤ gk ∧ Hid (wr.heap[eb]? = some (.cells (knownCells polO load (if 0 < i then k else 0) (if 1 < i then k else 0)) 36)) ∧ Hid (Below w.heap.size w wr))
    case atStart => exact ⟨0, rfl, by omega, Nat.le_refl _, HEV.out, HB3.out⟩
    case round =>
      obtain ⟨i, rfl, hi, hg, HEV, HB⟩ := hrel
      have hi3 : i = 0 ∨ i = 1 ∨ i = 2 := by omega
      rcases hi3 with rfl | rfl | rfl
      · have c4 : wr.cell? ⟨eb, 4, none⟩ = some (.int .i64 0) := cell_of_row _ _ 4 _ _ _ HEV.out
        have z4 : wr.frozen? ⟨eb, 4, none⟩ = false := by have := HEV.out; simp [World.frozen?, this]
        go_wp2_with fail
        go_roundg (2 - 1)
        case measure => omega
        case rel => exact ⟨1, by go_num, by omega, Nat.le_refl _, heap_setCell_same _ eb 4 _ _ _ _ HEV.out, HB.out.setCell hweb _⟩
      · have c4 : wr.cell? ⟨eb, 18, none⟩ = some (.int .i64 0) := cell_of_row _ _ 18 _ _ _ HEV.out
        have z4 : wr.frozen? ⟨eb, 18, none⟩ = false := by have := HEV.out; simp [World.frozen?, this]
        go_wp2_with fail
        go_roundg (2 - 2)
        case measure => omega
        case rel => exact ⟨2, by go_num, by omega, Nat.le_refl _, heap_setCell_same _ eb 18 _ _ _ _ HEV.out, HB.out.setCell hweb _⟩
      · have HEW := Lib.hid (show wr.heap[eb]? = some (.cells (knownCells polO load k k) 36) from HEV.out)
        have HBW := HB
        have heb2 : eb < wr.heap.size := (Array.getElem?_eq_some_iff.1 HEV.out).1
        have hss := HB.out.size
        clear HEV HB HB3 heblt
        generalize wr = wa at *
        go_wp2_with fail
        go_loopg [11, 53] live.length (fun gk s11 s53 wr => ∃ (i : Nat) (f : Nat → Bool), s53 = .int .i64 i ∧ s11 = .bool (anyIn (live.take i)) ∧ i ≤ live.length ∧ live.length - i ≤ gk ∧ Hid (wr.heap[wa.heap.size]? = some (.cells (boolCells f) 37)) ∧ Hid (∀ n, n < 8 → f n = decide ((n : Int) ∈ live.take i)) ∧ Hid (Below wa.heap.size wa wr))
        case atStart => exact ⟨0, fun _ => false, rfl, rfl, Nat.zero_le _, Nat.le_refl _, heap_alloc_new wa _, fun n hn => by simp, (Below.refl _ _).alloc (Nat.le_refl _) _⟩
        case round =>
          obtain ⟨i, f, rfl, rfl, hi, hg, HF, HFN, HB⟩ := hrel
          have htb : wa.heap.size < wr.heap.size := (Array.getElem?_eq_some_iff.1 HF.out).1
          by_cases hlt : i < live.length
          · have hltz : (i : Int) < (live.length : Int) := by omega
            have hsl := (HN.out.below icells_len (by decide) HBW.out (Nat.le_refl _)).below icells_len (by decide) HB.out (Nat.le_refl _)
            obtain ⟨b1, off1, rfl⟩ := hsl.plain icells_len (by decide) (by intro e; rw [e] at hlt; exact absurd hlt (by simp))
            have c1 : wr.cell? ⟨b1, off1 + i, none⟩ = some (.int .i64 (live[i]'hlt)) := by
              have := hsl.cell icells_len (i := i) (c := 0) hlt (by decide)
              simpa [icells] using this
            have htk : live.take (i + 1) = live.take i ++ [live[i]'hlt] := List.take_succ_eq_append_getElem hlt
            have HTK := Lib.hid htk
            generalize live[i]'hlt = z at *
            clear hsl htk
            by_cases hz : 0 ≤ z ∧ z < 8
            · obtain ⟨m, rfl⟩ := Int.eq_ofNat_of_zero_le hz.1
              have hm8 : m < 8 := by omega
              have hm8z : (m : Int) < 8 := by omega
              have hm0z : (m : Int) ≥ 0 := by omega
              have cf : wr.cell? ⟨wa.heap.size, m, none⟩ = some (.bool (f m)) := (cell_of_row _ _ m _ _ _ HF.out).trans (boolCells_at f hm8)
              have zf : wr.frozen? ⟨wa.heap.size, m, none⟩ = false := by have := HF.out; simp [World.frozen?, this]
              have hb1 : decide ((m : Int) ≥ 0) = true := decide_eq_true hm0z
              have hb2 : decide ((m : Int) < 8) = true := decide_eq_true hm8z
              clear hz
              go_wp2_with fail
              go_roundg (live.length - (i + 1))
              case measure => omega
              case rel =>
                refine ⟨i + 1, upd f m true, by go_num, ?_, by omega, Nat.le_refl _, (heap_setCell_same _ wa.heap.size m _ _ _ _ HF.out).trans (by rw [boolCells_set f hm8]), fun n hn => ?_, HB.out.setCell (Nat.le_refl _) _⟩
                · rw [HTK.out, anyIn_snoc]
                  have : (decide ((0 : Int) ≤ m) && decide ((m : Int) < 8)) = true := by simp; omega
                  rw [this, Bool.or_true]
                · rw [HTK.out]
                  unfold upd
                  by_cases hnm : n = m
                  · rw [if_pos hnm, hnm]; simp
                  · rw [if_neg hnm, HFN.out n hn]
                    have : ¬ (n : Int) = m := by omega
                    simp [this]
            · obtain ⟨y0, k0⟩ : ∃ x, decide (z ≥ 0) = x := ⟨_, rfl⟩
              obtain ⟨y1, k1⟩ : ∃ x, decide (z < 8) = x := ⟨_, rfl⟩
              have hfa : (y0 && y1) = false := by rw [← k0, ← k1, Bool.and_eq_false_iff]; simp only [decide_eq_false_iff_not]; omega
              have HZ := Lib.hid hz
              clear hz
              have hrel2 : anyIn (live.take (i + 1)) = anyIn (live.take i) ∧ ∀ n, n < 8 → f n = decide ((n : Int) ∈ live.take (i + 1)) := by
                refine ⟨?_, fun n hn => ?_⟩
                · rw [HTK.out, anyIn_snoc]
                  have : (decide ((0 : Int) ≤ z) && decide (z < 8)) = false := by rw [Bool.and_eq_false_iff, decide_eq_false_iff_not, decide_eq_false_iff_not]; have := HZ.out; omega
                  rw [this, Bool.or_false]
                · rw [HTK.out, HFN.out n hn]
                  have : ¬ (n : Int) = z := by have := HZ.out; omega
                  simp [this]
              have HR2 := Lib.hid hrel2
              clear hrel2
              cases y0 with
              | false =>
                go_wp2_with fail
                go_roundg (live.length - (i + 1))
                case measure => omega
                case rel => exact ⟨i + 1, f, by go_num, by rw [HR2.out.1], by omega, Nat.le_refl _, HF, HR2.out.2, HB⟩
              | true =>
                obtain rfl : y1 = false := by simpa using hfa
                go_wp2_with fail
                go_roundg (live.length - (i + 1))
                case measure => omega
                case rel => exact ⟨i + 1, f, by go_num, by rw [HR2.out.1], by omega, Nat.le_refl _, HF, HR2.out.2, HB⟩
          · have hltz : ¬ (i : Int) < (live.length : Int) := by omega
            obtain rfl : i = live.length := by omega
            have hfn := HFN.out
            rw [List.take_length] at hfn
            rw [List.take_length]
            have HFN2 := Lib.hid hfn
            have HF2 := HF
            have HB2 := Lib.hid (HBW.out.trans (HB.out.mono HBW.out.size))
            have HE2 := Lib.hid ((HB.out.block eb heb2).trans HEW.out)
            have hws := HB.out.size
            clear hfn HFN HF HB HBW HEW
            generalize wr = wb at *
            obtain ⟨x, hx⟩ : ∃ x, own (rk live k salt) = x := ⟨_, rfl⟩
            have hpl := fun i hi => planO i k hi salt load live l0 l1
            have hoc := own_cases live k salt
            rw [hx] at hoc hpl
            have HPL := Lib.hid hpl
            have HOC := Lib.hid hoc
            have HX := Lib.hid hx
            clear hpl hoc hx
            have HN2 := Lib.hid (HN.out.below icells_len (by decide) HB2.out (Nat.le_refl _))
            go_wp2_with fail
            go_loopg [14, 66] 8 (fun gk s14 s66 wr => ∃ (i : Nat), s66 = .int .i64 i ∧ s14 = .int .i64 (ownsTo x i) ∧ i ≤ 8 ∧ 8 - i ≤ gk ∧ Hid (Below wb.heap.size wb wr))
            case atStart => exact ⟨0, rfl, by unfold ownsTo; rw [if_neg (by rcases HOC.out with ⟨y, rfl, h⟩ | ⟨rfl, _⟩ <;> first | (simp; done) | (simp; omega))], by omega, Nat.le_refl _, Below.refl _ _⟩
            case round =>
              obtain ⟨i, rfl, rfl, hi, hg, HB⟩ := hrel
              by_cases hlt : i < 8
              · have hltz : (i : Int) < 8 := by omega
                have hri : (⟨i, 1, 1, salt⟩ : ACfg).right := by unfold ACfg.right; simp; omega
                have hnw := actNew_right ⟨i, 1, 1, salt⟩ hri wr
                have HNW := Lib.hid hnw
                have hsz := HB.out.size
                clear hnw
                go_wp2_with fail
                refine HNW.out.mono ?_
                rintro e w4 ⟨ab, rfl, hab, ha, hb4⟩
                have HA := Lib.hid ha
                have HB4 := Lib.hid (HB.out.trans (hb4.mono HB.out.size))
                have hab2 : wb.heap.size ≤ ab := by omega
                have hp := plan_in ab ⟨i, 1, 1, salt⟩ _ _ (some ⟨eb, 0, none⟩) 2 (knownP polO load k) oa cap live 5 0 w4 k hk8 hri ⟨hs0, hs1⟩ ha (evs_known ((HB4.out.block eb (by omega)).trans HE2.out)) (by simp [knownP]) (knownP_rem _ _ _) (HN2.out.below icells_len (by decide) HB4.out (Nat.le_refl _)) (by omega)
                rw [knownP_evs, show (knownP polO load k).length = 2 from rfl] at hp
                have hpi := HPL.out i hlt
                obtain ⟨r, hr⟩ : ∃ r, planI ⟨i, 1, 1, salt⟩ Trk.none (knownE polO load k) live k 5 0 = r := ⟨_, rfl⟩
                rw [hr] at hp hpi
                obtain ⟨⟨r1, r2⟩, rt⟩ := r
                have HP := Lib.hid hp
                clear ha hb4 hp hr HNW hri
                go_wp2_with fail
                refine HP.out.mono ?_
                rintro e w5 ⟨rfl, _, hg5⟩
                have HB5 := Lib.hid (below_grown HB4.out hg5 hab2 HB4.out.size)
                clear HP hg5
                by_cases hxi : x = ((i : Int), 0)
                · have hcd := hpi.1 hxi
                  have hth : f i = true := by
                    rw [HFN2.out i hlt, decide_eq_true_eq]
                    rcases HOC.out with ⟨y, hy, h⟩ | ⟨hy, _⟩
                    · rw [hxi, Prod.mk.injEq] at hy
                      rw [hy.1]; exact h.2.2.1
                    · rw [hxi, Prod.mk.injEq] at hy
                      exact absurd hy.2 (by decide)
                  have ct : w5.cell? ⟨wa.heap.size, i, none⟩ = some (.bool true) := by
                    rw [cell_of_row _ _ i _ _ _ ((HB5.out.block _ htb).trans HF2.out), boolCells_at f hlt, hth]
                  have ho1 : ownsTo x i = 0 := by rw [hxi]; unfold ownsTo; rw [if_neg (by simp)]
                  have ho2 : ownsTo x (i + 1) = 1 := by rw [hxi]; unfold ownsTo; rw [if_pos (by simp; omega)]
                  have HO2 := Lib.hid ho2
                  clear hpi hth ho2
                  rw [ho1]
                  rcases hcd with rfl | rfl
                  · go_wp2_with fail
                    go_roundg (8 - (i + 1))
                    case measure => omega
                    case rel => exact ⟨i + 1, by go_num, by rw [HO2.out], by omega, Nat.le_refl _, HB5⟩
                  · go_wp2_with fail
                    go_roundg (8 - (i + 1))
                    case measure => omega
                    case rel => exact ⟨i + 1, by go_num, by rw [HO2.out], by omega, Nat.le_refl _, HB5⟩
                · obtain rfl : r2 = 12 := hpi.2 hxi
                  have ho2 : ownsTo x (i + 1) = ownsTo x i := by
                    unfold ownsTo
                    rcases HOC.out with ⟨y, rfl, h⟩ | ⟨rfl, _⟩
                    · have : y ≠ i := fun e => hxi (by rw [e])
                      by_cases hyi : y < i
                      · rw [if_pos ⟨rfl, by simp; omega⟩, if_pos ⟨rfl, hyi⟩]
                      · rw [if_neg (by simp; omega), if_neg (by simp; omega)]
                    · simp
                  have HO2 := Lib.hid ho2
                  clear hpi ho2
                  go_wp2_with fail
                  go_roundg (8 - (i + 1))
                  case measure => omega
                  case rel => exact ⟨i + 1, by go_num, by rw [HO2.out], by omega, Nat.le_refl _, HB5⟩
              · have hltz : ¬ (i : Int) < 8 := by omega
                obtain rfl : i = 8 := by omega
                rcases HOC.out with ⟨y, rfl, h⟩ | ⟨rfl, h⟩
                · have ho : ownsTo (y, 0) 8 = 1 := by unfold ownsTo; rw [if_pos (by simp; omega)]
                  rw [ho]
                  go_wp2_with fail
                  go_ret
                  exact ⟨rfl, HB2.out.trans (HB.out.mono HB2.out.size)⟩
                · have ho : ownsTo (0, 8) 8 = 0 := by unfold ownsTo; rw [if_neg (by simp)]
                  rw [ho, h]
                  go_wp2_with fail
                  go_ret
                  exact ⟨rfl, HB2.out.trans (HB.out.mono HB2.out.size)⟩
end Go.Proofs.Ytjgbflclhkeibaa
