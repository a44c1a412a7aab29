/-
  Between a row of one's own (Owns) and the kit's words for a row that is being sorted (HoldsK, sortWorldK): there and back. No function of the program is entered.
  slices' swapRange and rotate at the element types that the program sorts: what they leave is a rotation of a part of the row.
  The merging of two sorted neighbours by rotations (symMerge), in plain Lean: what its binary searches find, and what it leaves. No program in sight.
-/
import Derived.Test.YtjgbflclhkeibaaGreatMRd
import Derived.Test.YtjgbflclhkeibaaGreatMEv
import Derived.Shelf.SlSortCmp.KitK
import Derived.Test.YtjgbflclhkeibaaGreatSortIns
namespace Go.Proofs.YtjgbflclhkeibaaGreat
open Go.Shelf Go.RowKit Go.Lib Go.Sort
set_option linter.unusedVariables false
variable {α : Type} [Inhabited α]

theorem flatK_toList (enc : α → List Value) (k : Nat) (k0 : 0 < k) (hk : ∀ x, (enc x).length = k) (l : List α) : (flatK enc k l.toArray).toList = l.flatMap enc := by
  apply List.ext_getElem?
  intro j
  by_cases hj : j < l.length * k
  · have hj' : j < (flatK enc k l.toArray).size := by simpa using hj
    rw [Array.getElem?_toList, Array.getElem?_eq_getElem hj']
    have hd : j / k < l.length := (Nat.div_lt_iff_lt_mul k0).2 hj
    have hm : j % k < k := Nat.mod_lt _ k0
    have e : (l.flatMap enc)[j / k * k + j % k]? = (enc l[j / k])[j % k]? := flat_at enc k hk l (j / k) (j % k) hd hm
    have e2 : j / k * k + j % k = j := by have := Nat.div_add_mod j k; rw [Nat.mul_comm] at this; exact this
    rw [e2] at e
    rw [e, List.getElem?_eq_getElem (by rw [hk]; exact hm)]
    have g := get_flatK enc k l.toArray j (by simpa using hj)
    rw [getElem!_pos _ j hj'] at g
    rw [g, getElem!_pos l.toArray (j / k) (by simpa using hd)]
    simp [getElem!_pos, hk, hm]
  · rw [Array.getElem?_toList, Array.getElem?_eq_none (by simpa using hj), List.getElem?_eq_none (by rw [flat_len enc k hk]; omega)]

theorem owns_holds {enc : α → List Value} {k base e : Nat} (k0 : 0 < k) (hk : ∀ x, (enc x).length = k) {w : World} {g n cap : Nat} {l : List α} (h : Owns enc k base e w (.slice (some ⟨g, 0, none⟩) n cap) l) : HoldsK enc k w g 0 l.toArray := by
  rcases h.2 with ⟨h, _⟩ | ⟨g', cap', cur, hv, hb, hh, hc, hm, hs, ht⟩
  · cases h
  · simp only [Value.slice.injEq, Option.some.injEq, Addr.mk.injEq] at hv
    obtain ⟨⟨rfl, _, _⟩, _, _⟩ := hv
    intro j hj
    have hj' : j < l.length * k := by simpa using hj
    refine ⟨?_, by simp [World.frozen?, hh]⟩
    have e1 : (flatK enc k l.toArray)[j]! = (flatK enc k l.toArray)[j] := getElem!_pos _ j hj
    have e2 : (l.flatMap enc)[j]? = some ((flatK enc k l.toArray)[j]) := by rw [← flatK_toList enc k k0 hk, Array.getElem?_toList, Array.getElem?_eq_getElem hj]
    have e3 := World.ownsRow.cells h (g := g) rfl j _ e2
    rw [Addr.add_lit] at e3
    rw [e1]
    exact e3

theorem grownBy_sort {enc : α → List Value} {k : Nat} {w : World} {g n : Nat} {os : Array Obj} (d : Array α) : w.grownBy (sortWorldK enc k w g 0 n d os) (some g) := by
  unfold sortWorldK putRowK
  refine ⟨rfl, rfl, rfl, by simp, fun k hk hne => ?_⟩
  rw [heap_grow_old _ _ (by simpa using hk)]
  have : g ≠ k := fun e => hne (by rw [e])
  simp [putRow, mapBlock, Sort.ahead, Array.getElem?_modify, this]

theorem owns_sorted {enc : α → List Value} {k base e : Nat} (k0 : 0 < k) (hk : ∀ x, (enc x).length = k) {w : World} {g n c cap : Nat} {os : Array Obj} {l : List α} (h : Owns enc k base e w (.slice (some ⟨g, 0, none⟩) n cap) l) (d : Array α) (hs : d.size = l.length) :
    Owns enc k base e (sortWorldK enc k w g 0 c d os) (.slice (some ⟨g, 0, none⟩) n cap) d.toList := by
  rcases h.2 with ⟨h, _⟩ | ⟨g', cap', cur, hv, hb, hh, hc, hm, hcs, ht⟩
  · cases h
  · simp only [Value.slice.injEq, Option.some.injEq, Addr.mk.injEq] at hv
    obtain ⟨⟨rfl, _, _⟩, rfl, rfl⟩ := hv
    have hlen : d.toList.length = l.length := by simpa using hs
    refine ⟨flat_len enc k hk _, .inr ⟨g, cap, putCells id 0 (flatK enc k d) cur, by rw [hlen], hb, ?_, by rw [hlen]; exact hc, hm, by simp [putCells, hcs], ?_⟩⟩
    · have hg : g < w.heap.size := (Array.getElem?_eq_some_iff.1 hh).1
      unfold sortWorldK putRowK
      rw [heap_grow_old _ _ (by simpa using hg)]
      simp [putRow, mapBlock, Sort.ahead, Array.getElem?_modify, hh, onCells]
    · have e1 : (flatK enc k d).toList = d.toList.flatMap enc := by have := flatK_toList enc k k0 hk d.toList; simpa using this
      rw [← e1]
      have hsz : (flatK enc k d).size = d.toList.length * k := by simp
      have hle : d.toList.length * k ≤ cur.size := by rw [hcs, hlen]; exact Nat.mul_le_mul_right _ hc
      apply List.ext_getElem?
      intro j
      by_cases hj : j < d.toList.length * k
      · have hjF : j < (flatK enc k d).size := by omega
        have hjc : j < cur.size := by omega
        have hp : (putCells id 0 (flatK enc k d) cur)[j]? = some ((flatK enc k d)[j]!) := by
          have hjc2 : j < (putCells id 0 (flatK enc k d) cur).size := by simp only [putCells, Array.size_mapIdx]; exact hjc
          rw [Array.getElem?_eq_getElem hjc2]
          congr 1
          simp only [putCells, Array.getElem_mapIdx, Nat.zero_le, true_and, Nat.zero_add, Nat.sub_zero, id]
          rw [if_pos hjF]
        rw [List.getElem?_take_of_lt hj, Array.getElem?_toList, Array.getElem?_toList, hp, Array.getElem?_eq_getElem hjF, getElem!_pos _ j hjF]
      · rw [List.getElem?_take_eq_none (by omega), Array.getElem?_toList, Array.getElem?_eq_none (by omega)]
end Go.Proofs.YtjgbflclhkeibaaGreat
namespace Go.Proofs.YtjgbflclhkeibaaGreat
open Go.Shelf Go.RowKit Go.Lib Go.Sort
set_option linter.unusedVariables false
set_option maxHeartbeats 4000000 in
set_option maxRecDepth 1000000 in
theorem swapRangeEv {P : Program} {k : Nat} (L : StEv P k) {α : Type} [Inhabited α] (enc : α → List Value) (fv : Value) (blk off cap a b n : Nat) (d0 d : Array α) (w0 w : World)
    (R : RowK enc k w0 blk off d0) (hs : d0.size = d.size) (S : SWK enc k w0 blk off d w) (ha : a + n ≤ d.size) (hb : b + n ≤ d.size) (hsz : d.size < 4611686018427387904) :
    Calls P 136 #[.slice (some ⟨blk, off, none⟩) d.size cap, .int .i64 a, .int .i64 b, .int .i64 n, fv] w fun e w' =>
      e = .returned (.tuple #[]) ∧ SWK enc k w0 blk off (swpN d a b n) w' := by
  have mixed := L.mixed; have aE := L.aE; have zE := L.zE; have t0 := L.t0; have a0 := L.a0; have z0 := L.z0; have v0 := L.v0; have t3 := L.t3; have a3 := L.a3; have z3 := L.z3; have v3 := L.v3; have t4 := L.t4; have a4 := L.a4; have z4 := L.z4; have v4 := L.v4; have t22 := L.t22; have a22 := L.a22; have z22 := L.z22; have v22 := L.v22; have t25 := L.t25; have a25 := L.a25; have z25 := L.z25; have v25 := L.v25; have u22 := run_underlying L.t22
  have FG := L.fSwap
  have S0 : Aside _ := S
  clear S
  go_enter FG, Tryz.ntmps136
  go_wp2
  go_loopg [10] n (fun gk s10 wr => ∃ (i : Nat), s10 = .int .i64 i ∧ i ≤ n ∧ n - i ≤ gk ∧ Aside (SWK enc k w0 blk off (swpN d a b i) wr))
  case atStart => exact ⟨0, rfl, Nat.zero_le _, Nat.le_refl _, S0⟩
  case round =>
    clear S0
    obtain ⟨i, rfl, hin, hg, S1⟩ := hrel
    by_cases hlt : i < n
    · have hltz : (i : Int) < (n : Int) := by omega
      have hds := size_swpN d a b i
      have HD : Hid _ := hds
      have hdi : (swpN d a b i).size ≤ d.size := by omega
      have hdi2 : d.size ≤ (swpN d a b i).size := by omega
      clear hds
      have ea : ((a : Int) + (i : Int)).toNat = a + i := by omega
      have pa : (0 : Int) ≤ (a : Int) + (i : Int) := by omega
      have ba : (a : Int) + (i : Int) < (d.size : Int) := by omega
      have ra : IntKind.i64.wrap ((a : Int) + (i : Int)) = (a : Int) + (i : Int) := by rw [IntKind.wrap_i64]; omega
      have eb : ((b : Int) + (i : Int)).toNat = b + i := by omega
      have pb : (0 : Int) ≤ (b : Int) + (i : Int) := by omega
      have bb : (b : Int) + (i : Int) < (d.size : Int) := by omega
      have rb : IntKind.i64.wrap ((b : Int) + (i : Int)) = (b : Int) + (i : Int) := by rw [IntKind.wrap_i64]; omega
      obtain ⟨dj, hdj⟩ : ∃ x, x = swpN d a b i := ⟨_, rfl⟩
      rw [← hdj] at S1 hdi hdi2 HD
      have HDJ : Hid _ := hdj
      clear hdj
      have S2 : Aside (SWK enc k w0 blk off (swp dj (a + i) (b + i)) ((wr.drew.setCells blk (off + (a + i) * k) (enc dj[b + i]!)).setCells blk (off + (b + i) * k) (enc dj[a + i]!))) := S1.out.swapped R (a + i) (b + i) (by omega) (by omega)
      have la := S1.out.ld1 R (by omega) P (a + i) (by omega)
      have lb := S1.out.ld1 R (by omega) P (b + i) (by omega)
      have sa := S1.out.st1 R (by omega) P (a + i) (by omega) dj[b + i]!
      have sb := S1.out.st2 R (by omega) P (a + i) (b + i) (by omega) (by omega) dj[b + i]! dj[a + i]!
      have na : (enc dj[a + i]!).length = k := R.hk _
      have nb : (enc dj[b + i]!).length = k := R.hk _
      generalize enc dj[a + i]! = cI at S2 la sb na
      generalize enc dj[b + i]! = cJ at S2 lb sa sb nb
      clear S1
      go_wp2_with fail
      go_big_region_o
      clear la lb sa sb
      generalize (wr.drew.setCells blk (off + (a + i) * k) cJ).setCells blk (off + (b + i) * k) cI = w2 at S2 ⊢
      go_wp2
      go_roundg (n - (i + 1))
      case measure => omega
      case rel => exact ⟨i + 1, by go_num, by omega, by omega, by rw [swpN, ← HDJ.out]; exact S2⟩
    · have hltz : ¬ (i : Int) < (n : Int) := by omega
      go_wp2
      go_end0
      obtain rfl : i = n := by omega
      exact ⟨rfl, S1.out⟩

set_option maxHeartbeats 4000000 in
set_option maxRecDepth 1000000 in
theorem rotateEv {P : Program} {k : Nat} (L : StEv P k) {α : Type} [Inhabited α] (enc : α → List Value) (fv : Value) (blk off cap a m b : Nat) (d0 d : Array α) (w0 w : World)
    (R : RowK enc k w0 blk off d0) (hs : d0.size = d.size) (S : SWK enc k w0 blk off d w) (ha : a < m) (hm : m < b) (hb : b ≤ d.size) (hsz : d.size < 4611686018427387904) :
    Calls P 135 #[.slice (some ⟨blk, off, none⟩) d.size cap, .int .i64 a, .int .i64 m, .int .i64 b, fv] w fun e w' =>
      e = .returned (.tuple #[]) ∧ SWK enc k w0 blk off (rotA d a m b) w' := by
  have mixed := L.mixed; have aE := L.aE; have zE := L.zE; have t0 := L.t0; have a0 := L.a0; have z0 := L.z0; have v0 := L.v0; have t3 := L.t3; have a3 := L.a3; have z3 := L.z3; have v3 := L.v3; have t4 := L.t4; have a4 := L.a4; have z4 := L.z4; have v4 := L.v4; have t22 := L.t22; have a22 := L.a22; have z22 := L.z22; have v22 := L.v22; have t25 := L.t25; have a25 := L.a25; have z25 := L.z25; have v25 := L.v25; have u22 := run_underlying L.t22
  have FG := L.fRot
  have eS : ∀ args w, (callFunc 136 args).run P w = .ok (.enter 136 args) w := enters_of L.fSwap (by kernel_rfl) rfl
  have S0 : Aside _ := S
  clear S
  have c1 : (m : Int) - (a : Int) = ((m - a : Nat) : Int) := by omega
  have c2 : (b : Int) - (m : Int) = ((b - m : Nat) : Int) := by omega
  go_enter FG, Tryz.ntmps135
  go_wp2
  go_loopg [10, 11] (b - a) (fun gk s10 s11 wr => ∃ (i j : Nat) (dk : Array α), s10 = .int .i64 i ∧ s11 = .int .i64 j ∧ 0 < i ∧ 0 < j ∧ i ≤ m - a ∧ j ≤ b - m ∧ i + j ≤ gk ∧ dk.size = d.size ∧ Aside (SWK enc k w0 blk off dk wr) ∧ Hid (rotA dk (m - i) m (m + j) = rotA d a m b))
  case atStart => exact ⟨m - a, b - m, d, by first | rfl | rw [c1], by first | rfl | rw [c2], by omega, by omega, Nat.le_refl _, Nat.le_refl _, by omega, rfl, S0, by show _ = _; congr 1 <;> omega⟩
  case round =>
    clear S0 c1 c2
    obtain ⟨i, j, dk, rfl, rfl, hi0, hj0, him, hjm, hg, hds, S1, HE⟩ := hrel
    have HD : Hid _ := hds
    have hd1 : dk.size ≤ d.size := by omega
    have hd2 : d.size ≤ dk.size := by omega
    have q1 : (m : Int) - (i : Int) = ((m - i : Nat) : Int) := by omega
    have r1 : IntKind.i64.wrap ((m : Int) - (i : Int)) = ((m - i : Nat) : Int) := by rw [IntKind.wrap_i64]; omega
    have q2 : (m : Int) + (j : Int) - (i : Int) = ((m + j - i : Nat) : Int) := by omega
    have Q1 := Lib.hid q1
    have Q2 := Lib.hid q2
    clear q1 q2 hds r1
    by_cases hij : i = j
    · subst hij
      have hne : ((i : Int) != (i : Int)) = false := by simp
      have hcall := swapRangeEv L enc fv blk off cap (m - i) m i d0 dk w0 wr R (by rw [HD.out]; exact hs) S1.out (by omega) (by omega) (by omega)
      rw [HD.out] at hcall
      have HC := Lib.hid hcall
      clear hcall
      go_wp2_with fail
      rw [Q1.out]
      refine HC.out.mono ?_
      rintro e w1 ⟨rfl, S3⟩
      have S4 : Aside _ := S3
      clear S3
      go_wp2
      go_end0
      refine ⟨rfl, ?_⟩
      rw [← HE.out, ← rot_eq dk m i (by omega) (by omega)]
      exact S4.out
    · have hne : ((i : Int) != (j : Int)) = true := by simp; omega
      by_cases hgt : j < i
      · have hgtz : (j : Int) < (i : Int) := by omega
        have hcall := swapRangeEv L enc fv blk off cap (m - i) m j d0 dk w0 wr R (by rw [HD.out]; exact hs) S1.out (by omega) (by omega) (by omega)
        rw [HD.out] at hcall
        have HC := Lib.hid hcall
        clear hcall
        go_wp2_with fail
        rw [Q1.out]
        refine HC.out.mono ?_
        rintro e w1 ⟨rfl, S3⟩
        have S4 : Aside _ := S3
        clear S3
        go_wp2
        go_roundg (i - j + j)
        case measure => omega
        case rel => exact ⟨i - j, j, _, by congr 1; omega, rfl, by omega, by omega, by omega, by omega, by omega, by rw [size_swpN]; exact HD.out, S4, by show _ = _; rw [← HE.out]; exact rot_gt dk m i j (by omega) (by omega) hgt⟩
      · have hgtz : ¬ (j : Int) < (i : Int) := by omega
        have hcall := swapRangeEv L enc fv blk off cap (m - i) (m + j - i) i d0 dk w0 wr R (by rw [HD.out]; exact hs) S1.out (by omega) (by omega) (by omega)
        rw [HD.out] at hcall
        have HC := Lib.hid hcall
        clear hcall
        go_wp2_with fail
        rw [Q1.out, Q2.out]
        refine HC.out.mono ?_
        rintro e w1 ⟨rfl, S3⟩
        have S4 : Aside _ := S3
        clear S3
        go_wp2
        go_roundg (i + (j - i))
        case measure => omega
        case rel => exact ⟨i, j - i, _, rfl, by congr 1; omega, by omega, by omega, by omega, by omega, by omega, by rw [size_swpN]; exact HD.out, S4, by show _ = _; rw [← HE.out]; exact rot_lt dk m i j (by omega) (by omega) (by omega)⟩


set_option maxHeartbeats 4000000 in
set_option maxRecDepth 1000000 in
theorem swapRangeLa {P : Program} {k : Nat} (L : StLa P k) {α : Type} [Inhabited α] (enc : α → List Value) (fv : Value) (blk off cap a b n : Nat) (d0 d : Array α) (w0 w : World)
    (R : RowK enc k w0 blk off d0) (hs : d0.size = d.size) (S : SWK enc k w0 blk off d w) (ha : a + n ≤ d.size) (hb : b + n ≤ d.size) (hsz : d.size < 4611686018427387904) :
    Calls P 134 #[.slice (some ⟨blk, off, none⟩) d.size cap, .int .i64 a, .int .i64 b, .int .i64 n, fv] w fun e w' =>
      e = .returned (.tuple #[]) ∧ SWK enc k w0 blk off (swpN d a b n) w' := by
  have mixed := L.mixed; have aE := L.aE; have zE := L.zE; have t0 := L.t0; have a0 := L.a0; have z0 := L.z0; have v0 := L.v0; have t3 := L.t3; have a3 := L.a3; have z3 := L.z3; have v3 := L.v3; have t4 := L.t4; have a4 := L.a4; have z4 := L.z4; have v4 := L.v4; have t22 := L.t22; have a22 := L.a22; have z22 := L.z22; have v22 := L.v22; have t25 := L.t25; have a25 := L.a25; have z25 := L.z25; have v25 := L.v25; have u22 := run_underlying L.t22
  have FG := L.fSwap
  have S0 : Aside _ := S
  clear S
  go_enter FG, Tryz.ntmps134
  go_wp2
  go_loopg [10] n (fun gk s10 wr => ∃ (i : Nat), s10 = .int .i64 i ∧ i ≤ n ∧ n - i ≤ gk ∧ Aside (SWK enc k w0 blk off (swpN d a b i) wr))
  case atStart => exact ⟨0, rfl, Nat.zero_le _, Nat.le_refl _, S0⟩
  case round =>
    clear S0
    obtain ⟨i, rfl, hin, hg, S1⟩ := hrel
    by_cases hlt : i < n
    · have hltz : (i : Int) < (n : Int) := by omega
      have hds := size_swpN d a b i
      have HD : Hid _ := hds
      have hdi : (swpN d a b i).size ≤ d.size := by omega
      have hdi2 : d.size ≤ (swpN d a b i).size := by omega
      clear hds
      have ea : ((a : Int) + (i : Int)).toNat = a + i := by omega
      have pa : (0 : Int) ≤ (a : Int) + (i : Int) := by omega
      have ba : (a : Int) + (i : Int) < (d.size : Int) := by omega
      have ra : IntKind.i64.wrap ((a : Int) + (i : Int)) = (a : Int) + (i : Int) := by rw [IntKind.wrap_i64]; omega
      have eb : ((b : Int) + (i : Int)).toNat = b + i := by omega
      have pb : (0 : Int) ≤ (b : Int) + (i : Int) := by omega
      have bb : (b : Int) + (i : Int) < (d.size : Int) := by omega
      have rb : IntKind.i64.wrap ((b : Int) + (i : Int)) = (b : Int) + (i : Int) := by rw [IntKind.wrap_i64]; omega
      obtain ⟨dj, hdj⟩ : ∃ x, x = swpN d a b i := ⟨_, rfl⟩
      rw [← hdj] at S1 hdi hdi2 HD
      have HDJ : Hid _ := hdj
      clear hdj
      have S2 : Aside (SWK enc k w0 blk off (swp dj (a + i) (b + i)) ((wr.drew.setCells blk (off + (a + i) * k) (enc dj[b + i]!)).setCells blk (off + (b + i) * k) (enc dj[a + i]!))) := S1.out.swapped R (a + i) (b + i) (by omega) (by omega)
      have la := S1.out.ld1 R (by omega) P (a + i) (by omega)
      have lb := S1.out.ld1 R (by omega) P (b + i) (by omega)
      have sa := S1.out.st1 R (by omega) P (a + i) (by omega) dj[b + i]!
      have sb := S1.out.st2 R (by omega) P (a + i) (b + i) (by omega) (by omega) dj[b + i]! dj[a + i]!
      have na : (enc dj[a + i]!).length = k := R.hk _
      have nb : (enc dj[b + i]!).length = k := R.hk _
      generalize enc dj[a + i]! = cI at S2 la sb na
      generalize enc dj[b + i]! = cJ at S2 lb sa sb nb
      clear S1
      go_wp2_with fail
      go_big_region_o
      clear la lb sa sb
      generalize (wr.drew.setCells blk (off + (a + i) * k) cJ).setCells blk (off + (b + i) * k) cI = w2 at S2 ⊢
      go_wp2
      go_roundg (n - (i + 1))
      case measure => omega
      case rel => exact ⟨i + 1, by go_num, by omega, by omega, by rw [swpN, ← HDJ.out]; exact S2⟩
    · have hltz : ¬ (i : Int) < (n : Int) := by omega
      go_wp2
      go_end0
      obtain rfl : i = n := by omega
      exact ⟨rfl, S1.out⟩

set_option maxHeartbeats 4000000 in
set_option maxRecDepth 1000000 in
theorem rotateLa {P : Program} {k : Nat} (L : StLa P k) {α : Type} [Inhabited α] (enc : α → List Value) (fv : Value) (blk off cap a m b : Nat) (d0 d : Array α) (w0 w : World)
    (R : RowK enc k w0 blk off d0) (hs : d0.size = d.size) (S : SWK enc k w0 blk off d w) (ha : a < m) (hm : m < b) (hb : b ≤ d.size) (hsz : d.size < 4611686018427387904) :
    Calls P 129 #[.slice (some ⟨blk, off, none⟩) d.size cap, .int .i64 a, .int .i64 m, .int .i64 b, fv] w fun e w' =>
      e = .returned (.tuple #[]) ∧ SWK enc k w0 blk off (rotA d a m b) w' := by
  have mixed := L.mixed; have aE := L.aE; have zE := L.zE; have t0 := L.t0; have a0 := L.a0; have z0 := L.z0; have v0 := L.v0; have t3 := L.t3; have a3 := L.a3; have z3 := L.z3; have v3 := L.v3; have t4 := L.t4; have a4 := L.a4; have z4 := L.z4; have v4 := L.v4; have t22 := L.t22; have a22 := L.a22; have z22 := L.z22; have v22 := L.v22; have t25 := L.t25; have a25 := L.a25; have z25 := L.z25; have v25 := L.v25; have u22 := run_underlying L.t22
  have FG := L.fRot
  have eS : ∀ args w, (callFunc 134 args).run P w = .ok (.enter 134 args) w := enters_of L.fSwap (by kernel_rfl) rfl
  have S0 : Aside _ := S
  clear S
  have c1 : (m : Int) - (a : Int) = ((m - a : Nat) : Int) := by omega
  have c2 : (b : Int) - (m : Int) = ((b - m : Nat) : Int) := by omega
  go_enter FG, Tryz.ntmps129
  go_wp2
  go_loopg [10, 11] (b - a) (fun gk s10 s11 wr => ∃ (i j : Nat) (dk : Array α), s10 = .int .i64 i ∧ s11 = .int .i64 j ∧ 0 < i ∧ 0 < j ∧ i ≤ m - a ∧ j ≤ b - m ∧ i + j ≤ gk ∧ dk.size = d.size ∧ Aside (SWK enc k w0 blk off dk wr) ∧ Hid (rotA dk (m - i) m (m + j) = rotA d a m b))
  case atStart => exact ⟨m - a, b - m, d, by first | rfl | rw [c1], by first | rfl | rw [c2], by omega, by omega, Nat.le_refl _, Nat.le_refl _, by omega, rfl, S0, by show _ = _; congr 1 <;> omega⟩
  case round =>
    clear S0 c1 c2
    obtain ⟨i, j, dk, rfl, rfl, hi0, hj0, him, hjm, hg, hds, S1, HE⟩ := hrel
    have HD : Hid _ := hds
    have hd1 : dk.size ≤ d.size := by omega
    have hd2 : d.size ≤ dk.size := by omega
    have q1 : (m : Int) - (i : Int) = ((m - i : Nat) : Int) := by omega
    have r1 : IntKind.i64.wrap ((m : Int) - (i : Int)) = ((m - i : Nat) : Int) := by rw [IntKind.wrap_i64]; omega
    have q2 : (m : Int) + (j : Int) - (i : Int) = ((m + j - i : Nat) : Int) := by omega
    have Q1 := Lib.hid q1
    have Q2 := Lib.hid q2
    clear q1 q2 hds r1
    by_cases hij : i = j
    · subst hij
      have hne : ((i : Int) != (i : Int)) = false := by simp
      have hcall := swapRangeLa L enc fv blk off cap (m - i) m i d0 dk w0 wr R (by rw [HD.out]; exact hs) S1.out (by omega) (by omega) (by omega)
      rw [HD.out] at hcall
      have HC := Lib.hid hcall
      clear hcall
      go_wp2_with fail
      rw [Q1.out]
      refine HC.out.mono ?_
      rintro e w1 ⟨rfl, S3⟩
      have S4 : Aside _ := S3
      clear S3
      go_wp2
      go_end0
      refine ⟨rfl, ?_⟩
      rw [← HE.out, ← rot_eq dk m i (by omega) (by omega)]
      exact S4.out
    · have hne : ((i : Int) != (j : Int)) = true := by simp; omega
      by_cases hgt : j < i
      · have hgtz : (j : Int) < (i : Int) := by omega
        have hcall := swapRangeLa L enc fv blk off cap (m - i) m j d0 dk w0 wr R (by rw [HD.out]; exact hs) S1.out (by omega) (by omega) (by omega)
        rw [HD.out] at hcall
        have HC := Lib.hid hcall
        clear hcall
        go_wp2_with fail
        rw [Q1.out]
        refine HC.out.mono ?_
        rintro e w1 ⟨rfl, S3⟩
        have S4 : Aside _ := S3
        clear S3
        go_wp2
        go_roundg (i - j + j)
        case measure => omega
        case rel => exact ⟨i - j, j, _, by congr 1; omega, rfl, by omega, by omega, by omega, by omega, by omega, by rw [size_swpN]; exact HD.out, S4, by show _ = _; rw [← HE.out]; exact rot_gt dk m i j (by omega) (by omega) hgt⟩
      · have hgtz : ¬ (j : Int) < (i : Int) := by omega
        have hcall := swapRangeLa L enc fv blk off cap (m - i) (m + j - i) i d0 dk w0 wr R (by rw [HD.out]; exact hs) S1.out (by omega) (by omega) (by omega)
        rw [HD.out] at hcall
        have HC := Lib.hid hcall
        clear hcall
        go_wp2_with fail
        rw [Q1.out, Q2.out]
        refine HC.out.mono ?_
        rintro e w1 ⟨rfl, S3⟩
        have S4 : Aside _ := S3
        clear S3
        go_wp2
        go_roundg (i + (j - i))
        case measure => omega
        case rel => exact ⟨i, j - i, _, rfl, by congr 1; omega, by omega, by omega, by omega, by omega, by omega, by rw [size_swpN]; exact HD.out, S4, by show _ = _; rw [← HE.out]; exact rot_lt dk m i j (by omega) (by omega) (by omega)⟩


end Go.Proofs.YtjgbflclhkeibaaGreat
namespace Go.Proofs.YtjgbflclhkeibaaGreat
open Go.Sort
set_option linter.unusedVariables false
variable {α : Type} [Inhabited α]

/-- what a merge of [a, b) leaves -/
structure SymPost (lt : α → α → Bool) (a b : Nat) (d d' : Array α) : Prop where
  size : d'.size = d.size
  out : ∀ t, t < a ∨ b ≤ t → d'[t]! = d[t]!
  stab : Stab lt d d'
  sorted : SortedIn lt a b d'
  mem : ∀ t, a ≤ t → t < b → ∃ u, a ≤ u ∧ u < b ∧ d'[t]! = d[u]!

theorem sorted_le {lt : α → α → Bool} (hO : SWO lt) {a b : Nat} {d : Array α} (h : SortedIn lt a b d) {i j : Nat} (h1 : a ≤ i) (h2 : i ≤ j) (h3 : j < b) : lt d[j]! d[i]! = false := by
  rcases Nat.lt_or_ge i j with h4 | h4
  · exact h i j h1 h4 h3
  · obtain rfl : i = j := by omega
    exact hO.irrefl _

theorem rotA_triv (d : Array α) (s m e : Nat) (h1 : s ≤ m) (h2 : m ≤ e) (h3 : e ≤ d.size) (h : s = m ∨ m = e) : rotA d s m e = d := by
  refine arr_ext (size_rotA _ _ _ _ h1 h2 h3) fun t ht => ?_
  rw [rotA_get _ _ _ _ h1 h2 h3]
  rcases h with rfl | rfl
  · split
    · rfl
    · split
      · congr 1; omega
      · split
        · omega
        · rfl
  · split
    · rfl
    · split
      · omega
      · split
        · congr 1; omega
        · rfl

/-! ### one element on the left -/
theorem sym_left {lt : α → α → Bool} (hO : SWO lt) (d : Array α) (a b i : Nat) (hb : b ≤ d.size) (h1 : a + 1 ≤ i) (h2 : i ≤ b) (hs : SortedIn lt (a + 1) b d)
    (hl : ∀ t, a + 1 ≤ t → t < i → lt d[t]! d[a]! = true) (hr : ∀ t, i ≤ t → t < b → lt d[t]! d[a]! = false) : SymPost lt a b d (rotA d a (a + 1) i) := by
  have g := rotA_get d a (a + 1) i (by omega) (by omega) (by omega)
  refine ⟨size_rotA _ _ _ _ (by omega) (by omega) (by omega), fun t ht => ?_, ?_, fun p q hp hpq hq => ?_, fun t h3 h4 => ?_⟩
  · rw [g]
    rcases ht with ht | ht
    · rw [if_pos ht]
    · rw [if_neg (by omega), if_neg (by omega), if_neg (by omega)]
  · refine rotA_stab hO _ _ _ _ (by omega) (by omega) (by omega) fun x y h3 h4 h5 h6 => ?_
    obtain rfl : x = a := by omega
    exact hl y h5 h6
  · rw [g, g, if_neg (show ¬ p < a by omega), if_neg (show ¬ q < a by omega)]
    by_cases c1 : q < a + (i - (a + 1))
    · rw [if_pos c1, if_pos (show p < a + (i - (a + 1)) by omega)]
      exact hs _ _ (by omega) (by omega) (by omega)
    · rw [if_neg c1]
      by_cases c2 : q < i
      · rw [if_pos c2, if_pos (show p < a + (i - (a + 1)) by omega)]
        have := hl (p - a + (a + 1)) (by omega) (by omega)
        have e : q - (i - (a + 1)) = a := by omega
        rw [e]
        cases hh : lt d[a]! d[p - a + (a + 1)]!
        · rfl
        · have := hO.trans _ _ _ this hh
          rw [hO.irrefl] at this; cases this
      · rw [if_neg c2]
        by_cases c3 : p < a + (i - (a + 1))
        · rw [if_pos c3]
          exact hs _ _ (by omega) (by omega) (by omega)
        · rw [if_neg c3]
          by_cases c4 : p < i
          · rw [if_pos c4]
            have e : p - (i - (a + 1)) = a := by omega
            rw [e]
            exact hr q (by omega) hq
          · rw [if_neg c4]
            exact hs _ _ (by omega) (by omega) (by omega)
  · rw [g, if_neg (by omega)]
    by_cases c1 : t < a + (i - (a + 1))
    · rw [if_pos c1]; exact ⟨_, by omega, by omega, rfl⟩
    · rw [if_neg c1]
      by_cases c2 : t < i
      · rw [if_pos c2]; exact ⟨_, by omega, by omega, rfl⟩
      · rw [if_neg c2]; exact ⟨_, by omega, by omega, rfl⟩

/-- the search: one step -/
theorem left_step {lt : α → α → Bool} (hO : SWO lt) (d : Array α) (a b i j h : Nat) (hs : SortedIn lt (a + 1) b d) (h0 : a + 1 ≤ i) (h1 : i ≤ h) (h2 : h < j) (h3 : j ≤ b) :
    (lt d[h]! d[a]! = true → ∀ t, i ≤ t → t < h + 1 → lt d[t]! d[a]! = true) ∧ (lt d[h]! d[a]! = false → ∀ t, h ≤ t → t < j → lt d[t]! d[a]! = false) := by
  refine ⟨fun e t h4 h5 => ?_, fun e t h4 h5 => ?_⟩
  · have k := sorted_le hO hs (i := t) (j := h) (by omega) (by omega) (by omega)
    cases hh : lt d[t]! d[a]!
    · have := hO.ntrans _ _ _ k hh; rw [e] at this; cases this
    · rfl
  · exact hO.ntrans _ _ _ (sorted_le hO hs (i := h) (j := t) (by omega) (by omega) (by omega)) e

/-! ### one element on the right -/
theorem sym_right {lt : α → α → Bool} (hO : SWO lt) (d : Array α) (a m i : Nat) (hb : m + 1 ≤ d.size) (h1 : a ≤ i) (h2 : i ≤ m) (hs : SortedIn lt a m d)
    (hl : ∀ t, a ≤ t → t < i → lt d[m]! d[t]! = false) (hr : ∀ t, i ≤ t → t < m → lt d[m]! d[t]! = true) : SymPost lt a (m + 1) d (rotA d i m (m + 1)) := by
  have g := rotA_get d i m (m + 1) (by omega) (by omega) (by omega)
  refine ⟨size_rotA _ _ _ _ (by omega) (by omega) (by omega), fun t ht => ?_, ?_, fun p q hp hpq hq => ?_, fun t h3 h4 => ?_⟩
  · rw [g]
    rcases ht with ht | ht
    · rw [if_pos (by omega)]
    · rw [if_neg (by omega), if_neg (by omega), if_neg (by omega)]
  · refine rotA_stab hO _ _ _ _ (by omega) (by omega) (by omega) fun x y h3 h4 h5 h6 => ?_
    obtain rfl : y = m := by omega
    exact hr x h3 h4
  · rw [g, g]
    by_cases c0 : p < i
    · rw [if_pos c0]
      by_cases c1 : q < i
      · rw [if_pos c1]; exact hs _ _ hp hpq (by omega)
      · rw [if_neg c1]
        by_cases c2 : q < i + (m + 1 - m)
        · rw [if_pos c2]
          have e : q - i + m = m := by omega
          rw [e]; exact hl p hp c0
        · rw [if_neg c2, if_pos hq]; exact hs _ _ hp (by omega) (by omega)
    · rw [if_neg c0, if_neg (show ¬ q < i by omega)]
      by_cases c1 : p < i + (m + 1 - m)
      · rw [if_pos c1, if_neg (show ¬ q < i + (m + 1 - m) by omega), if_pos hq]
        have e : p - i + m = m := by omega
        rw [e]
        have := hr (q - (m + 1 - m)) (by omega) (by omega)
        cases hh : lt d[q - (m + 1 - m)]! d[m]!
        · rfl
        · have := hO.trans _ _ _ this hh
          rw [hO.irrefl] at this; cases this
      · rw [if_neg c1, if_pos (show p < m + 1 by omega), if_neg (show ¬ q < i + (m + 1 - m) by omega), if_pos hq]
        exact hs _ _ (by omega) (by omega) (by omega)
  · rw [g]
    by_cases c0 : t < i
    · rw [if_pos c0]; exact ⟨_, h3, h4, rfl⟩
    · rw [if_neg c0]
      by_cases c1 : t < i + (m + 1 - m)
      · rw [if_pos c1]; exact ⟨_, by omega, by omega, rfl⟩
      · rw [if_neg c1, if_pos h4]; exact ⟨_, by omega, by omega, rfl⟩

theorem right_step {lt : α → α → Bool} (hO : SWO lt) (d : Array α) (a m i j h : Nat) (hs : SortedIn lt a m d) (h0 : a ≤ i) (h1 : i ≤ h) (h2 : h < j) (h3 : j ≤ m) :
    (lt d[m]! d[h]! = false → ∀ t, i ≤ t → t < h + 1 → lt d[m]! d[t]! = false) ∧ (lt d[m]! d[h]! = true → ∀ t, h ≤ t → t < j → lt d[m]! d[t]! = true) := by
  refine ⟨fun e t h4 h5 => ?_, fun e t h4 h5 => ?_⟩
  · exact hO.ntrans _ _ _ e (sorted_le hO hs (i := t) (j := h) (by omega) (by omega) (by omega))
  · have k := sorted_le hO hs (i := h) (j := t) (by omega) (by omega) (by omega)
    cases hh : lt d[m]! d[t]!
    · have := hO.ntrans _ _ _ hh k; rw [e] at this; cases this
    · rfl

/-! ### the halves -/
theorem mid_step {lt : α → α → Bool} (hO : SWO lt) (d : Array α) (a m b p s c r : Nat) (hA : SortedIn lt a m d) (hB : SortedIn lt m b d) (h0 : a ≤ s) (h1 : s ≤ c) (h2 : c < r) (h3 : r ≤ m) (h4 : m + r ≤ p + 1) (h5 : p < b + s) :
    (lt d[p - c]! d[c]! = false → ∀ t, s ≤ t → t < c + 1 → lt d[p - t]! d[t]! = false) ∧ (lt d[p - c]! d[c]! = true → ∀ t, c ≤ t → t < r → lt d[p - t]! d[t]! = true) := by
  refine ⟨fun e t h6 h7 => ?_, fun e t h6 h7 => ?_⟩
  · have k1 := sorted_le hO hB (i := p - c) (j := p - t) (by omega) (by omega) (by omega)
    have k2 := sorted_le hO hA (i := t) (j := c) (by omega) (by omega) (by omega)
    exact hO.ntrans _ _ _ k1 (hO.ntrans _ _ _ e k2)
  · have k1 := sorted_le hO hB (i := p - t) (j := p - c) (by omega) (by omega) (by omega)
    have k2 := sorted_le hO hA (i := c) (j := t) (by omega) (by omega) (by omega)
    cases hh : lt d[p - t]! d[t]!
    · have := hO.ntrans _ _ _ k1 (hO.ntrans _ _ _ hh k2); rw [e] at this; cases this
    · rfl

/-- s: where the search ended; e: its mirror. (c0, r0: between which it ran.) -/
structure SymCut (lt : α → α → Bool) (a m b md s e c0 r0 : Nat) (d : Array α) : Prop where
  hb : b ≤ d.size
  am : a ≤ m
  mb : m ≤ b
  amd : a ≤ md
  mdb : md ≤ b
  hes : e + s = md + m
  ase : a ≤ s
  sm : s ≤ m
  me : m ≤ e
  eb : e ≤ b
  smd : s ≤ md
  low : c0 ≤ s
  high : s ≤ r0
  ends : c0 = a ∨ c0 + b = md + m
  tops : s < m → m < e → s < r0
  no : ∀ t, c0 ≤ t → t < s → lt d[md + m - 1 - t]! d[t]! = false
  yes : ∀ t, s ≤ t → t < r0 → lt d[md + m - 1 - t]! d[t]! = true
  sA : SortedIn lt a m d
  sB : SortedIn lt m b d

theorem SymCut.cross {lt : α → α → Bool} (hO : SWO lt) {a m b md s e c0 r0 : Nat} {d : Array α} (h : SymCut lt a m b md s e c0 r0 d) : ∀ i j, s ≤ i → i < m → m ≤ j → j < e → lt d[j]! d[i]! = true := by
  intro i j h1 h2 h3 h4
  obtain ⟨hb, am, mb, amd, mdb, he, ase, sm, me, eb, smd, low, high, ends, tops, no, yes, sA, sB⟩ := h
  have k := yes s (Nat.le_refl _) (tops (by omega) (by omega))
  have e1 : md + m - 1 - s = e - 1 := by omega
  rw [e1] at k
  have k1 := sorted_le hO sB (i := j) (j := e - 1) (by omega) (by omega) (by omega)
  have k2 := sorted_le hO sA (i := s) (j := i) (by omega) (by omega) (by omega)
  cases hh : lt d[j]! d[i]!
  · have := hO.ntrans _ _ _ k1 (hO.ntrans _ _ _ hh k2); rw [k] at this; cases this
  · rfl

theorem SymCut.far {lt : α → α → Bool} (hO : SWO lt) {a m b md s e c0 r0 : Nat} {d : Array α} (h : SymCut lt a m b md s e c0 r0 d) : ∀ i j, a ≤ i → i < s → e ≤ j → j < b → lt d[j]! d[i]! = false := by
  intro i j h1 h2 h3 h4
  obtain ⟨hb, am, mb, amd, mdb, he, ase, sm, me, eb, smd, low, high, ends, tops, no, yes, sA, sB⟩ := h
  have hc : c0 < s := by omega
  have k := no (s - 1) (by omega) (by omega)
  have e1 : md + m - 1 - (s - 1) = e := by omega
  rw [e1] at k
  have k1 := sorted_le hO sB (i := e) (j := j) (by omega) (by omega) (by omega)
  have k2 := sorted_le hO sA (i := i) (j := s - 1) (by omega) (by omega) (by omega)
  exact hO.ntrans _ _ _ k1 (hO.ntrans _ _ _ k k2)

theorem SymCut.get {lt : α → α → Bool} {a m b md s e c0 r0 : Nat} {d : Array α} (h : SymCut lt a m b md s e c0 r0 d) (t : Nat) : (rotA d s m e)[t]! = if t < s then d[t]! else if t < md then d[t - s + m]! else if t < e then d[t - (md - s)]! else d[t]! := by
  obtain ⟨hb, am, mb, amd, mdb, he, ase, sm, me, eb, smd, low, high, ends, tops, no, yes, sA, sB⟩ := h
  rw [rotA_get _ _ _ _ sm me (by omega)]
  have e1 : s + (e - m) = md := by omega
  have e2 : e - m = md - s := by omega
  rw [e1, e2]

theorem SymCut.s1 {lt : α → α → Bool} {a m b md s e c0 r0 : Nat} {d : Array α} (h : SymCut lt a m b md s e c0 r0 d) : SortedIn lt a s (rotA d s m e) := fun i j h1 h2 h3 => by
  have sm := h.sm
  rw [h.get, h.get, if_pos (show j < s by omega), if_pos (show i < s by omega)]; exact h.sA _ _ h1 h2 (by omega)
theorem SymCut.s2 {lt : α → α → Bool} {a m b md s e c0 r0 : Nat} {d : Array α} (h : SymCut lt a m b md s e c0 r0 d) : SortedIn lt s md (rotA d s m e) := fun i j h1 h2 h3 => by
  have he := h.hes
  have eb := h.eb
  rw [h.get, h.get, if_neg (show ¬ j < s by omega), if_pos h3, if_neg (show ¬ i < s by omega), if_pos (show i < md by omega)]; exact h.sB _ _ (by omega) (by omega) (by omega)
theorem SymCut.s3 {lt : α → α → Bool} {a m b md s e c0 r0 : Nat} {d : Array α} (h : SymCut lt a m b md s e c0 r0 d) : SortedIn lt md e (rotA d s m e) := fun i j h1 h2 h3 => by
  have he := h.hes
  have smd := h.smd
  have ase := h.ase
  rw [h.get, h.get, if_neg (show ¬ j < s by omega), if_neg (show ¬ j < md by omega), if_pos h3, if_neg (show ¬ i < s by omega), if_neg (show ¬ i < md by omega), if_pos (show i < e by omega)]; exact h.sA _ _ (by omega) (by omega) (by omega)
theorem SymCut.s4 {lt : α → α → Bool} {a m b md s e c0 r0 : Nat} {d : Array α} (h : SymCut lt a m b md s e c0 r0 d) : SortedIn lt e b (rotA d s m e) := fun i j h1 h2 h3 => by
  have he := h.hes
  have smd := h.smd
  have me := h.me
  have sm := h.sm
  rw [h.get, h.get, if_neg (show ¬ j < s by omega), if_neg (show ¬ j < md by omega), if_neg (show ¬ j < e by omega), if_neg (show ¬ i < s by omega), if_neg (show ¬ i < md by omega), if_neg (show ¬ i < e by omega)]; exact h.sB _ _ (by omega) (by omega) (by omega)

theorem SymCut.both {lt : α → α → Bool} (hO : SWO lt) {a m b md s e c0 r0 : Nat} {d : Array α} (h : SymCut lt a m b md s e c0 r0 d) : ∀ u v, a ≤ u → u < md → md ≤ v → v < b → lt (rotA d s m e)[v]! (rotA d s m e)[u]! = false := by
  intro u v h1 h2 h3 h4
  have he := h.hes
  have smd := h.smd
  have me := h.me
  have sm := h.sm
  have ase := h.ase
  rw [h.get, h.get, if_neg (show ¬ v < s by omega), if_neg (show ¬ v < md by omega)]
  by_cases c1 : u < s
  · rw [if_pos c1]
    by_cases c2 : v < e
    · rw [if_pos c2]; exact h.sA _ _ (by omega) (by omega) (by omega)
    · rw [if_neg c2]; exact h.far hO _ _ h1 c1 (by omega) h4
  · rw [if_neg c1, if_pos h2]
    by_cases c2 : v < e
    · rw [if_pos c2]
      have k := h.cross hO (v - (md - s)) (u - s + m) (by omega) (by omega) (by omega) (by omega)
      cases hh : lt d[v - (md - s)]! d[u - s + m]!
      · rfl
      · have := hO.trans _ _ _ k hh; rw [hO.irrefl] at this; cases this
    · rw [if_neg c2]; exact h.sB _ _ (by omega) (by omega) (by omega)

theorem SymPost.same {lt : α → α → Bool} {a b : Nat} {d : Array α} (h : SortedIn lt a b d) : SymPost lt a b d d := ⟨rfl, fun _ _ => rfl, Stab.refl _ _, h, fun t h1 h2 => ⟨t, h1, h2, rfl⟩⟩

/-- one half is empty: it is sorted as it is -/
theorem sorted_of_empty {lt : α → α → Bool} {a s b : Nat} {d : Array α} (h1 : SortedIn lt a s d) (h2 : SortedIn lt s b d) (h : ¬ (a < s ∧ s < b)) (h3 : a ≤ s) (h4 : s ≤ b) : SortedIn lt a b d := by
  rcases Nat.eq_or_lt_of_le h3 with e | e
  · rw [e]; exact h2
  · obtain rfl : s = b := by omega
    exact h1

theorem sortedIn_keep {lt : α → α → Bool} {a b : Nat} {d d' : Array α} (h : SortedIn lt a b d) (e : ∀ t, a ≤ t → t < b → d'[t]! = d[t]!) : SortedIn lt a b d' := fun i j h1 h2 h3 => by
  rw [e i (by omega) (by omega), e j (by omega) (by omega)]; exact h i j h1 h2 h3

/-- the halves, each merged, are merged -/
theorem SymCut.glue {lt : α → α → Bool} (hO : SWO lt) {a m b md s e c0 r0 : Nat} {d d2 d3 : Array α} (h : SymCut lt a m b md s e c0 r0 d) (h2 : SymPost lt a md (rotA d s m e) d2) (h3 : SymPost lt md b d2 d3) : SymPost lt a b d d3 := by
  have amd := h.amd
  have mdb := h.mdb
  have smd := h.smd
  have he := h.hes
  have ase := h.ase
  have sm := h.sm
  have me := h.me
  have eb := h.eb
  have hb := h.hb
  refine ⟨by rw [h3.size, h2.size, size_rotA _ _ _ _ sm me (by omega)], fun t ht => ?_, ?_, fun i j h4 h5 h6 => ?_, fun t h4 h5 => ?_⟩
  · rw [h3.out t (by omega), h2.out t (by omega), h.get]
    rcases ht with ht | ht
    · rw [if_pos (by omega)]
    · rw [if_neg (by omega), if_neg (by omega), if_neg (by omega)]
  · exact ((rotA_stab hO d s m e sm me (by omega) (h.cross hO)).trans h2.stab).trans h3.stab
  · by_cases c1 : j < md
    · rw [h3.out i (by omega), h3.out j (by omega)]; exact h2.sorted i j h4 h5 c1
    · by_cases c2 : i < md
      · rw [h3.out i (by omega)]
        obtain ⟨u, hu1, hu2, hu⟩ := h2.mem i h4 c2
        obtain ⟨v, hv1, hv2, hv⟩ := h3.mem j (by omega) h6
        rw [hu, hv, h2.out v (by omega)]
        exact h.both hO u v hu1 hu2 hv1 hv2
      · exact h3.sorted i j (by omega) h5 h6
  · have key : ∀ u, a ≤ u → u < b → ∃ v, a ≤ v ∧ v < b ∧ (rotA d s m e)[u]! = d[v]! := by
      intro u hu1 hu2
      rw [h.get]
      by_cases c1 : u < s
      · rw [if_pos c1]; exact ⟨_, hu1, hu2, rfl⟩
      · rw [if_neg c1]
        by_cases c2 : u < md
        · rw [if_pos c2]; exact ⟨_, by omega, by omega, rfl⟩
        · rw [if_neg c2]
          by_cases c3 : u < e
          · rw [if_pos c3]; exact ⟨_, by omega, by omega, rfl⟩
          · rw [if_neg c3]; exact ⟨_, hu1, hu2, rfl⟩
    by_cases c1 : t < md
    · rw [h3.out t (by omega)]
      obtain ⟨u, hu1, hu2, hu⟩ := h2.mem t h4 c1
      rw [hu]; exact key u hu1 (by omega)
    · obtain ⟨v, hv1, hv2, hv⟩ := h3.mem t (by omega) h5
      rw [hv, h2.out v (by omega)]; exact key v (by omega) hv2

/-! ### blocks -/
/-- each block of bs places (c * bs on), from lo on and ahead of hi, is sorted -/
def Blk (lt : α → α → Bool) (bs lo hi : Nat) (d : Array α) : Prop := ∀ c, lo ≤ c * bs → ∀ i j, c * bs ≤ i → i < j → j < c * bs + bs → j < hi → lt d[j]! d[i]! = false

theorem Blk.none (lt : α → α → Bool) (bs lo : Nat) (d : Array α) : Blk lt bs lo 0 d := fun c h i j h1 h2 h3 h4 => by omega

theorem Blk.keep {lt : α → α → Bool} {bs lo hi : Nat} {d d' : Array α} (h : Blk lt bs lo hi d) (e : ∀ t, lo ≤ t → t < hi → d'[t]! = d[t]!) : Blk lt bs lo hi d' := fun c hc i j h1 h2 h3 h4 => by
  rw [e i (by omega) (by omega), e j (by omega) (by omega)]; exact h c hc i j h1 h2 h3 h4

/-- one block more -/
theorem Blk.more {lt : α → α → Bool} {bs c0 hi : Nat} {d d' : Array α} (hh : hi ≤ (c0 + 1) * bs) (h : Blk lt bs 0 (c0 * bs) d) (e : ∀ t, t < c0 * bs → d'[t]! = d[t]!) (hs : SortedIn lt (c0 * bs) hi d') : Blk lt bs 0 hi d' := fun c _ i j h1 h2 h3 h4 => by
  have e1 : (c0 + 1) * bs = c0 * bs + bs := by rw [Nat.add_mul, Nat.one_mul]
  rcases Nat.lt_trichotomy c c0 with hc | rfl | hc
  · have : (c + 1) * bs ≤ c0 * bs := Nat.mul_le_mul_right _ hc
    rw [Nat.add_mul, Nat.one_mul] at this
    rw [e i (by omega), e j (by omega)]
    exact h c (Nat.zero_le _) i j h1 h2 h3 (by omega)
  · exact hs i j h1 h2 (by omega)
  · have : (c0 + 1) * bs ≤ c * bs := Nat.mul_le_mul_right _ hc
    omega

theorem Blk.at {lt : α → α → Bool} {bs lo hi : Nat} {d : Array α} (h : Blk lt bs lo hi d) (c a b : Nat) (ha : a = c * bs) (hlo : lo ≤ a) (hb1 : b ≤ a + bs) (hb2 : b ≤ hi) : SortedIn lt a b d := fun i j h1 h2 h3 => by
  subst ha; exact h c hlo i j h1 h2 (by omega) (by omega)

theorem Blk.from {lt : α → α → Bool} {bs lo lo' hi : Nat} {d : Array α} (h : Blk lt bs lo hi d) (hl : lo ≤ lo') : Blk lt bs lo' hi d := fun c hc => h c (by omega)

theorem insertion_out {lt : α → α → Bool} (hO : SWO lt) (d : Array α) (a b : Nat) (hab : a ≤ b) (hb : b ≤ d.size) : (insertionSort lt d a b).size = d.size ∧ (∀ t, t < a ∨ b ≤ t → (insertionSort lt d a b)[t]! = d[t]!) ∧ SortedIn lt a b (insertionSort lt d a b) := by
  have h := insertionSort_holds (lt := lt) hO d a b hab hb
  exact ⟨h.1.1, h.1.2.1, h.2⟩
end Go.Proofs.YtjgbflclhkeibaaGreat
