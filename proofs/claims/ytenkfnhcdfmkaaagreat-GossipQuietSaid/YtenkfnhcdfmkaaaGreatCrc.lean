/-
  A check sum: some number of 32 bits. A frame: its bytes, one behind the other.
-/
import Derived.Test.YtenkfnhcdfmkaaaGreatMVintP
namespace Go.Proofs.YtenkfnhcdfmkaaaGreat
open Go.RowKit Go.Lib
set_option linter.unusedVariables false
set_option linter.unusedSimpArgs false
set_option maxHeartbeats 2000000 in
theorem eat_any (x b : Int) (w : World) : Calls Tryz.prog 191 #[.int .u32 x, .int .u8 b] w fun e w' => ∃ y, e = .returned (.int .u32 y) ∧ w' = w := by
 go_enter Tryz.func191, Tryz.ntmps191
 go_wp2_with fail
 go_loopg [0, 5, 10] 8 (fun gk s0 s5 s10 wr => ∃ (i : Nat) (r : Int), s0 = .int .u32 r ∧ s10 = .int .i64 i ∧ i ≤ 8 ∧ 8 - i ≤ gk ∧ wr = w)
 case atStart => exact ⟨0, _, rfl, rfl, Nat.zero_le _, Nat.le_refl _, rfl⟩
 case round =>
  obtain ⟨i, r, rfl, rfl, hi, hg, rfl⟩ := hrel
  by_cases hlt : i < 8
  ·have hltz : (i : Int) < 8 := by omega
   go_wp2_with fail
   go_roundg (8 - (i + 1))
   case measure => omega
   case rel => exact ⟨i + 1, _, rfl, by go_num, by omega, Nat.le_refl _, rfl⟩
  ·have hltz : ¬ (i : Int) < 8 := by omega
   go_wp2_with fail
   go_ret
   first | exact ⟨_, rfl, rfl⟩ | exact ⟨⟨_, rfl⟩, rfl⟩ | exact ⟨_, rfl⟩
set_option maxHeartbeats 2000000 in
theorem more_any (x : Int) (oa : Option Addr) (cap : Nat) (l : List Int) (w : World) (h : SlAt ycells w (.slice oa l.length cap) l) (hl : l.length ≤ 1000000) :
  Calls Tryz.prog 190 #[.int .u32 x, .slice oa l.length cap] w fun e w' => ∃ y, e = .returned (.int .u32 y) ∧ w' = w := by
 have HS := Lib.hid h
 clear h
 go_enter Tryz.func190, Tryz.ntmps190
 go_wp2_with fail
 go_loopg [5, 7, 12] l.length (fun gk s5 s7 s12 wr => ∃ (i : Nat) (r : Int), s5 = .int .u32 r ∧ s12 = .int .i64 i ∧ i ≤ l.length ∧ l.length - i ≤ gk ∧ wr = w)
 case atStart => exact ⟨0, _, rfl, rfl, Nat.zero_le _, Nat.le_refl _, rfl⟩
 case round =>
  obtain ⟨i, r, rfl, rfl, hi, hg, rfl⟩ := hrel
  by_cases hlt : i < l.length
  ·have hltz : (i : Int) < (l.length : Int) := by omega
   obtain ⟨b, off, rfl⟩ := HS.out.plain ycells_len (by decide) (by intro e; rw [e] at hlt; exact absurd hlt (by simp))
   have cx := HS.out.cell ycells_len (i := i) (c := 0) hlt (by decide)
   replace cx : wr.cell? ⟨b, off + i, none⟩ = some (.int .u8 l[i]) := by
    have e : off + (i * 1 + 0) = off + i := by omega
    rw [e] at cx
    exact cx
   generalize l[i] = x at *
   have HEA := Lib.hid (eat_any r x wr)
   go_wp2_with fail
   refine HEA.out.mono ?_
   rintro e w2 ⟨y, rfl, rfl⟩
   clear HEA
   go_wp2_with fail
   go_roundg (l.length - (i + 1))
   case measure => omega
   case rel => exact ⟨i + 1, _, rfl, by go_num, by omega, Nat.le_refl _, rfl⟩
  ·have hltz : ¬ (i : Int) < (l.length : Int) := by omega
   go_wp2_with fail
   go_ret
   first | exact ⟨_, rfl, rfl⟩ | exact ⟨⟨_, rfl⟩, rfl⟩ | exact ⟨_, rfl⟩
theorem crcSum_any (oa : Option Addr) (cap : Nat) (l : List Int) (w : World) (h : SlAt ycells w (.slice oa l.length cap) l) (hl : l.length ≤ 1000000) :
  Calls Tryz.prog 188 #[.slice oa l.length cap] w fun e w' => ∃ y, e = .returned (.int .u32 y) ∧ w' = w := by
 have HM := Lib.hid (more_any 0 oa cap l w h hl)
 go_enter Tryz.func188, Tryz.ntmps188
 go_wp2_with fail
 refine HM.out.mono ?_
 rintro e w2 ⟨y, rfl, rfl⟩
 go_wp2_with fail
 go_ret
 first | exact ⟨_, rfl, rfl⟩ | exact ⟨⟨_, rfl⟩, rfl⟩ | exact ⟨_, rfl⟩
set_option maxHeartbeats 4000000 in
theorem frameSum_any (oa : Option Addr) (cap : Nat) (l : List Int) (w : World) (h : SlAt ycells w (.slice oa l.length cap) l) (hl : l.length ≤ 1000000) :
  Calls Tryz.prog 184 #[.slice oa l.length cap] w fun e w' => ∃ o c bs, bs.length = 4 ∧ e = .returned (.slice o 4 c) ∧ Owns ycells 1 w.heap.size 5 w' (.slice o 4 c) bs ∧ Below w.heap.size w w' := by
 have HC := Lib.hid (crcSum_any oa cap l w h hl)
 clear h
 go_enter Tryz.func184, Tryz.ntmps184
 go_wp2_with fail
 refine HC.out.mono ?_
 rintro e w1 ⟨y, rfl, rfl⟩
 clear HC
 go_wp2_with fail
 go_loopg [4, 5] 4 (fun gk s4 s5 wr => ∃ (j : Nat) (o : Option Addr) (c : Nat) (bs : List Int), s4 = .slice o j c ∧ s5 = .int .i64 (24 - 8 * (j : Int)) ∧ j ≤ 4 ∧ 4 - j ≤ gk ∧ bs.length = j ∧ Hid (Owns ycells 1 w1.heap.size 5 wr (.slice o j c) bs) ∧ Hid (Below w1.heap.size w1 wr))
 case atStart => exact ⟨0, none, 0, [], rfl, rfl, Nat.zero_le _, Nat.le_refl _, rfl, Owns.nil _ _ _ _ _, Below.refl _ _⟩
 case round =>
  obtain ⟨j, o, c, bs, rfl, rfl, hj, hg, hb, HO, HB⟩ := hrel
  by_cases hlt : j < 4
  ·have hltz : (0 : Int) ≤ 24 - 8 * (j : Int) := by omega
   go_wp2_with (at_builtin; refine wpList_app ycells 1 ycells_len (by decide) ycells_one _ rfl _ _ 174 rfl w1.heap.size 5 _ 1 Tryz.underlying174 infoByte rfl _ bs rfl ?h1 _ [y / 2 ^ (24 - 8 * j) % 256] rfl ?h2 ?h3 ?h4 ?h5 ?_)
   case h1 => exact HO.out.below ((Below.refl wr.heap.size wr).alloc (Nat.le_refl _) _) (Nat.le_refl _)
   case h2 => exact (owns_newG ycells_len wr _ 5 [y / 2 ^ (24 - 8 * j) % 256] (by simp [ycells]) (by simp)).at
   case h3 => simp only [List.length_singleton]; omega
   case h4 => simp only [List.length_singleton]; omega
   case h5 => have := HB.out.size; simp; omega
   intro v2 w2 hown2 hg2 hv2
   obtain ⟨o2, c2, hx⟩ := slAt_slice hown2.at
   have hln : (bs ++ [y / 2 ^ (24 - 8 * j) % 256]).length = j + 1 := by rw [List.length_append, hb]; rfl
   rw [hln] at hx
   subst hx
   have HB2 := Lib.hid ((HB.out.alloc HB.out.size (.cells #[.int .u8 (y / 2 ^ (24 - 8 * j) % 256)] 5)).grown hg2 (by have := HB.out.size; simp; omega) fun b hb => (HO.out.lt b hb).1)
   have HO2 := Lib.hid hown2
   clear hg2 hv2 hown2 HO HB
   generalize bs ++ [y / 2 ^ (24 - 8 * j) % 256] = bs2 at *
   go_wp2_with fail
   go_roundg (4 - (j + 1))
   case measure => omega
   case rel => exact ⟨j + 1, o2, c2, bs2, rfl, by go_num, by omega, Nat.le_refl _, hln, HO2.out, HB2.out⟩
  ·have hltz : ¬ (0 : Int) ≤ 24 - 8 * (j : Int) := by omega
   obtain rfl : j = 4 := by omega
   go_wp2_with fail
   go_ret
   exact ⟨o, c, bs, hb, rfl, HO.out, HB.out⟩
def flen (n : Nat) : Nat := 1 + vlen n + n + 4
set_option maxHeartbeats 8000000 in
theorem framePut_any (oa : Option Addr) (cap : Nat) (l : List Int) (w : World) (h : SlAt ycells w (.slice oa l.length cap) l) (hl : l.length ≤ 4096) :
  Calls Tryz.prog 174 #[.slice oa l.length cap] w fun e w' => ∃ o c bs, bs.length = flen l.length ∧ e = .returned (.tuple #[.slice o bs.length c, .int .i64 0]) ∧ Owns ycells 1 w.heap.size 5 w' (.slice o bs.length c) bs ∧ Below w.heap.size w w' := by
 have hlz : ¬ (4096 : Int) < (l.length : Int) := by omega
 have h1 := (owns_newG ycells_len w #[.int .u8 1] 5 [(1 : Int)] (by simp [ycells]) (by simp)).at
 have hb1 : Below w.heap.size w (w.alloc (.cells #[.int .u8 1] 5)) := (Below.refl _ _).alloc (Nat.le_refl _) _
 have hvp := vintPut_any (some ⟨w.heap.size, 0, none⟩) 1 [(1 : Int)] (l.length : Int) (by omega) (by omega) _ h1 (by simp)
 have HVP := Lib.hid hvp
 have HB1 := Lib.hid hb1
 have HS := Lib.hid h
 clear hvp hb1 h1 h
 go_enter Tryz.func174, Tryz.ntmps174
 go_wp2_with fail
 refine HVP.out.mono ?_
 rintro e w2 ⟨o2, c2, bs, hbs, rfl, hown, hb2⟩
 rw [Int.toNat_natCast] at hbs
 have hs1 : (w.alloc (.cells #[.int .u8 1] 5)).heap.size = w.heap.size + 1 := World.size_alloc _ _
 have HB2 := Lib.hid (HB1.out.trans (hb2.mono HB1.out.size))
 have hv6 := vlen_le l.length
 have hr2 : Owns ycells 1 w.heap.size 5 w2 (.slice o2 (1 + vlen l.length) c2) (1 :: bs) := by
  have h := hown.lower HB1.out.size
  rw [hbs] at h
  exact h
 have HO2 := Lib.hid hr2
 have HBS := Lib.hid hbs
 have HS2 := Lib.hid (HS.out.below ycells_len (by decide) HB2.out (Nat.le_refl _))
 have hll : ([(1 : Int)] : List Int).length + bs.length = 1 + vlen l.length := by rw [hbs]; rfl
 rw [hll]
 clear hown hb2 hr2 HVP HB1 HS hs1 hbs hll
 go_wp2_with (at_builtin; refine wpList_app ycells 1 ycells_len (by decide) ycells_one _ rfl _ _ 174 rfl w.heap.size 5 _ 1 Tryz.underlying174 infoByte rfl _ (1 :: bs) rfl ?h1 _ l rfl ?h2 ?h3 ?h4 ?h5 ?_)
 case h1 => exact HO2.out
 case h2 => exact HS2.out
 case h3 => have := HBS.out; simp only [List.length_cons]; omega
 case h4 => have := HBS.out; simp only [List.length_cons]; omega
 case h5 => exact HB2.out.size
 intro v3 w3 hown3 hg3 hv3
 have HB3 := Lib.hid (HB2.out.grown hg3 HB2.out.size fun b hb => (HO2.out.lt b hb).1)
 have hl3 : (1 :: (bs ++ l)).length = 1 + vlen l.length + l.length := by have := HBS.out; simp only [List.length_cons, List.length_append]; omega
 obtain ⟨o3, c3, hx⟩ := slAt_slice hown3.at
 subst hx
 have HO3 := Lib.hid hown3
 clear hown3 hg3 hv3 HO2 HS2 HB2 HBS
 replace HO3 : Hid (Owns ycells 1 w.heap.size 5 w3 (.slice o3 (1 :: (bs ++ l)).length c3) (1 :: (bs ++ l))) := HO3
 generalize (1 :: (bs ++ l)) = l3 at *
 have hfs := frameSum_any o3 c3 l3 w3 HO3.out.at (by omega)
 have HFS := Lib.hid hfs
 have HL3 := Lib.hid hl3
 clear hfs hl3
 go_wp2_with fail
 refine HFS.out.mono ?_
 rintro e w4 ⟨o4, c4, b4, hb4, rfl, hown4, hB4⟩
 have HB4 := Lib.hid (HB3.out.trans (hB4.mono HB3.out.size))
 have HO4 := Lib.hid hown4
 have HO5 := Lib.hid (HO3.out.below hB4 (Nat.le_refl _))
 have h45 : w3.heap.size ≤ w4.heap.size := hB4.size
 have HH4 := Lib.hid hb4
 clear hown4 hB4 HFS HO3 hb4
 go_wp2_with (at_builtin; refine wpList_app ycells 1 ycells_len (by decide) ycells_one _ rfl _ _ 174 rfl w.heap.size 5 _ 1 Tryz.underlying174 infoByte rfl _ l3 rfl ?g1 _ b4 rfl ?g2 ?g3 ?g4 ?g5 ?_)
 case g1 => exact HO5.out
 case g2 => have h := HO4.out.at; exact h
 case g3 => have := HL3.out; have := HH4.out; omega
 case g4 => have := HL3.out; have := HH4.out; omega
 case g5 => exact HB4.out.size
 intro v5 w5 hown5 hg5 hv5
 have HB5 := Lib.hid (HB4.out.grown hg5 HB4.out.size fun b hb => (HO5.out.lt b hb).1)
 have hl5 : (l3 ++ b4).length = flen l.length := by unfold flen; have := HL3.out; have := HH4.out; rw [List.length_append]; omega
 obtain ⟨o5, c5, hx⟩ := slAt_slice hown5.at
 subst hx
 have HO6 := Lib.hid hown5
 have HL5 := Lib.hid hl5
 clear hown5 hg5 hv5 HO4 HO5 HB4 HB3 hl5
 generalize l3 ++ b4 = l5 at *
 go_wp2_with fail
 go_ret2
 exact ⟨o5, c5, l5, HL5.out, rfl, HO6.out, HB5.out⟩
end Go.Proofs.YtenkfnhcdfmkaaaGreat
