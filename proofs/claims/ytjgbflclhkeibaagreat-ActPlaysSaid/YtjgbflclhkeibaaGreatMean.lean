/-
  window.Mean and window.Load: the mean of a node's newest samples, and the sum of all nodes' means.
-/
import Derived.Test.YtjgbflclhkeibaaGreatOf
import Derived.Test.YtjgbflclhkeibaaGreatAdd
import Derived.Deep.QuietTactic
import Derived.BigQuiet
namespace Go.Proofs.YtjgbflclhkeibaaGreat
open Go.Shelf Go.RowKit Go.Lib Go.Sort
set_option linter.unusedVariables false

def sumOf (s : List Ev) : Int := s.foldl (fun t e => satAdd t e.value) 0
def meanOf (s : List Ev) : Int × Int := ceilDiv (sumOf s) s.length
theorem sumOf_snoc (s : List Ev) (e : Ev) : sumOf (s ++ [e]) = satAdd (sumOf s) e.value := by unfold sumOf; rw [List.foldl_append]; rfl

set_option maxHeartbeats 8000000 in
theorem mean_any (oa : Option Addr) (cap : Nat) (ps : List PEv) (work node size : Int) (w : World) (h : EvsAt w (.slice oa ps.length cap) ps) (hl : ps.length ≤ 1000000) (hr : ∀ p ∈ ps, p.2.rem.length ≤ 1000000) :
    Calls Tryz.prog 60 #[.slice oa ps.length cap, .int .i64 work, .int .i64 node, .int .i64 size] w fun e w' => e = .returned (.tuple #[.int .i64 (meanOf (winOf (ps.map (·.2)) work node size)).1, .bool ((meanOf (winOf (ps.map (·.2)) work node size)).2 == 0)]) ∧ Below w.heap.size w w' := by
  have hof := fun W (hE : EvsAt W (.slice oa ps.length cap) ps) => of_any oa cap ps work node size W hE hl hr
  have HOF := Lib.hid hof
  have HE := Lib.hid h
  obtain ⟨r, hrr⟩ : ∃ r, r = meanOf (winOf (ps.map (·.2)) work node size) := ⟨_, rfl⟩
  rw [← hrr]
  have HRR := Lib.hid hrr
  clear hof h hr hrr
  go_enter Tryz.func60, Tryz.ntmps60
  go_wp2_with fail
  refine (HOF.out _ (HE.out.below ((Below.refl _ _).alloc (Nat.le_refl _) _) (Nat.le_refl _))).mono ?_
  rintro e w1 ⟨v, qs, rfl, hqn, hqs, hacc, hb⟩
  obtain ⟨oq, cq, rfl⟩ := slAt_slice hacc.row.at
  have ht1 : Tot w1 w.heap.size 0 0 := by
    have h0 : Tot (w.alloc (.cells #[.int .i64 0, .int .i64 0] 109)) w.heap.size 0 0 := ⟨_, heap_alloc_new w _⟩
    exact h0.below hb
  have hs1 : w.heap.size + 1 ≤ w1.heap.size := by have := hb.size; simpa using this
  have hb1 : Below w.heap.size w w1 := ((Below.refl _ _).alloc (Nat.le_refl _) _).trans (hb.mono (by simp))
  have HB := Lib.hid hb1
  have HACC := Lib.hid hacc
  have HT := Lib.hid ht1
  have HQS := Lib.hid hqs
  clear hacc hb hb1 ht1 hqs
  go_wp2_with fail
  go_loopg [21] qs.length (fun gk s21 wr => ∃ (i : Nat), s21 = .int .i64 i ∧ i ≤ qs.length ∧ qs.length - i ≤ gk ∧ Hid (Tot wr w.heap.size (sumOf ((qs.take i).map (·.2))) i) ∧ Hid (Exc w.heap.size w1 wr))
  case atStart => exact ⟨0, rfl, Nat.zero_le _, Nat.le_refl _, HT.out, Exc.refl _ _⟩
  case round =>
    obtain ⟨i, rfl, hi, hg, HTR, HX⟩ := hrel
    by_cases hlt : i < qs.length
    · have hltz : (i : Int) < (qs.length : Int) := by omega
      have hsl : SlAt pcells wr (.slice oq qs.length cq) qs := HACC.out.row.at.keep (.inr fun g hg2 => by
        have := HACC.out.row.lt g hg2
        simp at this
        exact HX.out.block g this.2 (by omega))
      obtain ⟨b, off, rfl⟩ := slAt_some hsl i hlt
      obtain ⟨ra, rn, rc, ev, hp, c0, c1, c2, c3, c4, c5, c6, c7, c8, c9, c10, c11, c12, c13⟩ := hsl.ev i hlt
      have htk : (qs.take (i + 1)).map (·.2) = (qs.take i).map (·.2) ++ [ev] := by
        rw [List.take_succ_eq_append_getElem hlt, (List.getElem?_eq_some_iff.1 hp).2, List.map_append]; rfl
      have HTK := Lib.hid htk
      clear hsl hp htk
      go_wp2_with fail
      refine (totAdd_any _ _ _ ev.value _ (HTR.out.below ((Below.refl _ _).alloc (Nat.le_refl _) _)) (by omega) (by omega)).mono ?_
      rintro e w2 ⟨rfl, ht2, hx2⟩
      have ht3 : Tot w2 w.heap.size (sumOf ((qs.take (i + 1)).map (·.2))) ((i + 1 : Nat) : Int) := by rw [HTK.out, sumOf_snoc]; exact ht2
      have hx3 : Exc w.heap.size w1 w2 := HX.out.trans ((Exc.of ((Below.refl _ _).alloc (Nat.le_refl _) _)).trans hx2)
      have HT3 := Lib.hid ht3
      have HX3 := Lib.hid hx3
      clear ht2 hx2 ht3 hx3
      go_wp2_with fail
      go_roundg (qs.length - (i + 1))
      case measure => omega
      case rel => exact ⟨i + 1, by go_num, by omega, Nat.le_refl _, HT3, HX3⟩
    · have hltz : ¬ (i : Int) < (qs.length : Int) := by omega
      obtain rfl : i = qs.length := by omega
      have htr := HTR.out
      rw [List.take_length, HQS.out] at htr
      have hlen : (winOf (ps.map (·.2)) work node size).length = qs.length := by rw [← HQS.out, List.length_map]
      have hbel : Below w.heap.size w wr := HB.out.trans (HX.out.below (by omega) (Nat.le_refl _))
      obtain ⟨c0, c1, _, _, _⟩ := htr.read
      have hcd := ceilDiv_any (sumOf (winOf (ps.map (·.2)) work node size)) qs.length
      have hre := HRR.out
      unfold meanOf at hre
      rw [hlen] at hre
      rw [← hre] at hcd
      generalize sumOf (winOf (ps.map (·.2)) work node size) = sm at *
      have HCD := Lib.hid hcd
      have HBEL := Lib.hid hbel
      clear hcd hbel htr hre
      go_wp2_with fail
      refine (HCD.out _).mono ?_
      rintro e w' ⟨rfl, rfl⟩
      go_wp2_with fail
      go_ret2
      exact ⟨rfl, HBEL.out⟩
def loadStep (evs : List Ev) (work size : Int) (p : Int × Int) (node : Nat) : Int × Int :=
  if (meanOf (winOf evs work node size)).2 = 0 then (satAdd p.1 (meanOf (winOf evs work node size)).1, p.2 + 1) else p
def loadN (evs : List Ev) (work size : Int) : Nat → Int × Int
  | 0 => (0, 0)
  | n + 1 => loadStep evs work size (loadN evs work size n) n
theorem loadN_bd (evs : List Ev) (work size : Int) : ∀ n, 0 ≤ (loadN evs work size n).2 ∧ (loadN evs work size n).2 ≤ n
  | 0 => by simp [loadN]
  | n + 1 => by
    have h := loadN_bd evs work size n
    simp only [loadN, loadStep]
    split <;> simp <;> omega
def loadOf (evs : List Ev) (work size : Int) : (Int × Int) × Int := if within size 1 16 = size then (loadN evs work size 8, 0) else ((0, 0), 2)

set_option maxHeartbeats 8000000 in
theorem load_any (oa : Option Addr) (cap : Nat) (ps : List PEv) (work size : Int) (w : World) (h : EvsAt w (.slice oa ps.length cap) ps) (hl : ps.length ≤ 1000000) (hr : ∀ p ∈ ps, p.2.rem.length ≤ 1000000) :
    Calls Tryz.prog 43 #[.slice oa ps.length cap, .int .i64 work, .int .i64 size] w fun e w' => e = .returned (.tuple #[.int .i64 (loadOf (ps.map (·.2)) work size).1.1, .int .i64 (loadOf (ps.map (·.2)) work size).1.2, .int .i64 (loadOf (ps.map (·.2)) work size).2]) ∧ Below w.heap.size w w' := by
  have hm := fun (node : Nat) W (hE : EvsAt W (.slice oa ps.length cap) ps) => mean_any oa cap ps work node size W hE hl hr
  have HM := Lib.hid hm
  have HE := Lib.hid h
  have hwi := within_any size 1 16
  clear hm h hr
  by_cases ht : within size 1 16 = size
  · have hlo : loadOf (ps.map (·.2)) work size = (loadN (ps.map (·.2)) work size 8, 0) := by unfold loadOf; rw [if_pos ht]
    rw [hlo]
    simp only
    rw [ht] at hwi
    have HWI := Lib.hid hwi
    have hne : (size != size) = false := by simp
    generalize hrr : loadN (ps.map (·.2)) work size 8 = r
    have HRR := Lib.hid hrr
    clear hwi ht hlo hrr
    go_enter Tryz.func43, Tryz.ntmps43
    go_wp2_with fail
    refine (HWI.out _).mono ?_
    rintro e w' ⟨rfl, rfl⟩
    go_wp2_with fail
    have h0 : Tot (w.alloc (.cells #[.int .i64 0, .int .i64 0] 109)) w.heap.size 0 0 := ⟨_, heap_alloc_new w _⟩
    have H0 := Lib.hid h0
    clear h0
    go_loopg [19] 8 (fun gk s19 wr => ∃ (i : Nat), s19 = .int .i64 i ∧ i ≤ 8 ∧ 8 - i ≤ gk ∧ Hid (Tot wr w.heap.size (loadN (ps.map (·.2)) work size i).1 (loadN (ps.map (·.2)) work size i).2) ∧ Hid (Exc w.heap.size (w.alloc (.cells #[.int .i64 0, .int .i64 0] 109)) wr))
    case atStart => exact ⟨0, rfl, Nat.zero_le _, Nat.le_refl _, H0.out, Exc.refl _ _⟩
    case round =>
      obtain ⟨i, rfl, hi, hg, HTR, HX⟩ := hrel
      have hbel : Below w.heap.size w wr := ((Below.refl w.heap.size w).alloc (Nat.le_refl _) _).trans (HX.out.below (by simp) (Nat.le_refl _))
      have HBEL := Lib.hid hbel
      clear hbel
      by_cases hlt : i < 8
      · have hltz : (i : Int) < 8 := by omega
        have hst : loadN (ps.map (·.2)) work size (i + 1) = loadStep (ps.map (·.2)) work size (loadN (ps.map (·.2)) work size i) i := rfl
        obtain ⟨hn1, hn2⟩ := loadN_bd (ps.map (·.2)) work size i
        unfold loadStep at hst
        have hmi := HM.out i wr (HE.out.below HBEL.out (Nat.le_refl _))
        generalize meanOf (winOf (ps.map (·.2)) work i size) = m at hst hmi
        generalize hLN : loadN (ps.map (·.2)) work size i = p at *
        generalize hLN1 : loadN (ps.map (·.2)) work size (i + 1) = p1 at *
        have HMI := Lib.hid hmi
        have HST := Lib.hid hst
        have HLN1 := Lib.hid hLN1
        clear hmi hst hLN hLN1
        obtain ⟨m1, m2⟩ := m
        obtain ⟨p1', p2'⟩ := p
        simp only at hn1 hn2
        have hb2 : p2' ≤ 4611686018427387904 := by omega
        by_cases hok : (m2 == 0) = true
        · have hx := HMI.out
          simp only [hok] at hx
          have HMJ := Lib.hid hx
          clear HMI hx
          go_wp2_with fail
          refine (HMJ.out).mono ?_
          rintro e w1 ⟨rfl, hb⟩
          have ht1 : Tot w1 w.heap.size p1' p2' := HTR.out.below hb
          have hx1 : Exc w.heap.size wr w1 := Exc.of hb
          have HT1 := Lib.hid ht1
          have HX1 := Lib.hid hx1
          clear hb ht1 hx1
          go_wp2_with fail
          refine (totAdd_any _ _ _ m1 _ HT1.out hn1 hb2).mono ?_
          rintro e w2 ⟨rfl, ht2, hx2⟩
          have HT2 := Lib.hid ht2
          have HX2 := Lib.hid hx2
          clear ht2 hx2
          go_wp2_with fail
          go_roundg (8 - (i + 1))
          case measure => omega
          case rel =>
            refine ⟨i + 1, by go_num, by omega, Nat.le_refl _, ?_, HX.out.trans (HX1.out.trans HX2.out)⟩
            show Tot _ _ _ _
            rw [HLN1.out, HST.out, if_pos (by simpa using hok)]
            exact HT2.out
        · have hok' : (m2 == 0) = false := by simpa using hok
          have hx := HMI.out
          simp only [hok'] at hx
          have HMJ := Lib.hid hx
          clear HMI hx hok
          go_wp2_with fail
          refine (HMJ.out).mono ?_
          rintro e w1 ⟨rfl, hb⟩
          have ht1 : Tot w1 w.heap.size p1' p2' := HTR.out.below hb
          have hx1 : Exc w.heap.size wr w1 := Exc.of hb
          have HT1 := Lib.hid ht1
          have HX1 := Lib.hid hx1
          clear hb ht1 hx1
          go_wp2_with fail
          go_roundg (8 - (i + 1))
          case measure => omega
          case rel =>
            refine ⟨i + 1, by go_num, by omega, Nat.le_refl _, ?_, HX.out.trans HX1.out⟩
            show Tot _ _ _ _
            rw [HLN1.out, HST.out, if_neg (by simpa using hok')]
            exact HT1.out
      · have hltz : ¬ (i : Int) < 8 := by omega
        obtain rfl : i = 8 := by omega
        have htr := HTR.out
        rw [HRR.out] at htr
        obtain ⟨c0, c1, _, _, _⟩ := htr.read
        clear htr
        go_wp2_with fail
        go_quiet (fail)
        go_wp2_with fail
        refine bodyPost_ret (v := .tuple #[.int .i64 r.1, .int .i64 r.2, .int .i64 0]) (by simp [results, Tryz.results43, go_sem]) rfl ⟨rfl, ?_⟩
        exact HBEL.out.trans ⟨rfl, rfl, rfl, Nat.le_refl _, fun _ _ => rfl⟩
  · have hlo : loadOf (ps.map (·.2)) work size = ((0, 0), 2) := by unfold loadOf; rw [if_neg ht]
    rw [hlo]
    simp only
    have hne : (within size 1 16 != size) = true := by simpa using ht
    generalize within size 1 16 = wi at *
    have HWI := Lib.hid hwi
    clear hwi ht hlo
    go_enter Tryz.func43, Tryz.ntmps43
    go_wp2_with fail
    refine (HWI.out _).mono ?_
    rintro e w' ⟨rfl, rfl⟩
    go_wp2_with fail
    refine bodyPost_ret (v := .tuple #[.int .i64 0, .int .i64 0, .int .i64 2]) (by simp [results, Tryz.results43, go_sem]) rfl ⟨rfl, ?_⟩
    exact Below.refl _ _
end Go.Proofs.YtjgbflclhkeibaaGreat
