/-
  How many bytes a number takes, plainly. No program in sight.
  A number's bytes behind those that are there: vint.Put.
-/
import Derived.Test.YtenkfnhcdfmkaaaGreatMRd
import Derived.Test.YtenkfnhcdfmkaaaGreatMAcc
namespace Go.Proofs.YtenkfnhcdfmkaaaGreat
open Go.RowKit Go.Lib
set_option linter.unusedVariables false
def ycells (x : Int) : List Value := [.int .u8 x]
theorem ycells_len (x : Int) : (ycells x).length = 1 := rfl
theorem ycells_one (x : Int) : ∀ v ∈ ycells x, v.oneCell' = true := by
 intro v hv
 simp [ycells] at hv
 subst hv
 rfl
def vlen (n : Nat) : Nat := if n < 128 then 1 else if n < 16384 then 2 else if n < 2097152 then 3 else if n < 268435456 then 4 else if n < 34359738368 then 5 else 6
theorem vlen_pos (n : Nat) : 1 ≤ vlen n := by
 unfold vlen
 repeat' split
 all_goals omega
theorem vlen_le (n : Nat) : vlen n ≤ 6 := by
 unfold vlen
 repeat' split
 all_goals omega
theorem vlen_one {n : Nat} (h : n < 128) : vlen n = 1 := by unfold vlen; rw [if_pos h]
theorem vlen_more {n : Nat} (h : 128 ≤ n) (h2 : n ≤ 1099511627776) : vlen n = 1 + vlen (n / 128) := by
 unfold vlen
 repeat' split
 all_goals omega
end Go.Proofs.YtenkfnhcdfmkaaaGreat
namespace Go.Proofs.YtenkfnhcdfmkaaaGreat
open Go.RowKit Go.Lib
set_option linter.unusedVariables false
set_option linter.unusedSimpArgs false
theorem infoByte : ((Tryz.prog).info? 5).map (fun i => (i.zero, i.size, i.bytes)) = some (some (.int .u8 0), 1, 1) := by kernel_rfl
theorem owns_madeB {e : Nat} (W : World) (n : Nat) (hn : W.heap.size = n) : Owns ycells 1 n e (W.alloc (.cells #[] e)) (.slice (some ⟨n, 0, none⟩) 0 0) [] := by
 subst hn
 exact World.ownsRow_made W #[] 0 (Nat.le_refl _) (by decide) rfl
theorem owns_newG {α : Type} {enc : α → List Value} {k : Nat} (hk : ∀ x, (enc x).length = k) (W : World) (cs : Array Value) (e : TypeId) (l : List α) (hc : cs.toList = l.flatMap enc) (hm : l.length ≤ 1000000) : Owns enc k W.heap.size e (W.alloc (.cells cs e)) (.slice (some ⟨W.heap.size, 0, none⟩) l.length l.length) l := by
 have hl := flat_len enc k hk l
 refine ⟨hl, .inr ⟨W.heap.size, l.length, cs, rfl, Nat.le_refl _, heap_alloc_new W _, Nat.le_refl _, by simp only [maxLen]; omega, ?_, ?_⟩⟩
 ·rw [← Array.length_toList, hc, hl]
 ·rw [hc, List.take_of_length_le (by omega)]
set_option maxHeartbeats 1000000 in
theorem cloneByte_any (v : Value) (l : List Int) (w : World) (h : SlAt ycells w v l) (hl : l.length ≤ 1000000) :
  Calls Tryz.prog 179 #[v] w fun e w' => ∃ o c, e = .returned (.slice o l.length c) ∧ Owns ycells 1 w.heap.size 5 w' (.slice o l.length c) l ∧ Below w.heap.size w w' := by
 have q44 : ∀ (w : World) (a : Option Addr) (n c n' c' : Nat), (binOp .eql 174 (.slice a n c) (.slice none n' c')).run Tryz.prog w = .ok (.bool a.isNone) w := fun w a n c n' c' => Lib.run_eql_slice_nil w _ _ a n c n' c' Tryz.underlying174
 obtain ⟨oa, cap, rfl, hcap, hn, hc⟩ := h
 cases oa with
 | none =>
  obtain rfl := hn rfl
  obtain rfl : l = [] := List.eq_nil_of_length_eq_zero (by omega)
  go_enter Tryz.func179, Tryz.ntmps179
  go_wp2
  go_ret
  exact ⟨none, 0, rfl, Owns.nil _ _ _ _ _, Below.refl _ _⟩
 | some aa =>
  have HS : Hid (SlAt ycells w (.slice (some aa) l.length cap) l) := ⟨some aa, cap, rfl, hcap, hn, hc⟩
  clear hc hn
  go_enter Tryz.func179, Tryz.ntmps179
  go_wp2_with (at_builtin; go_loud (refine wpList_app ycells 1 ycells_len (by decide) ycells_one _ rfl _ _ 174 rfl w.heap.size 5 _ 1 Tryz.underlying174 infoByte rfl _ [] rfl ?h1 _ l rfl ?h2 ?h3 ?h4 ?h5 ?_))
  case h1 => exact owns_madeB w _ rfl
  case h2 => exact HS.out.below ycells_len (by decide) ((Below.refl _ _).alloc (Nat.le_refl _) _) (Nat.le_refl _)
  case h3 => simp only [List.length_nil]; omega
  case h4 => simp only [List.length_nil]; omega
  case h5 => simp
  intro v' w' hown hg hv
  obtain ⟨o, c, hh⟩ := slAt_slice hown.at
  rw [hh]
  rw [hh] at hown
  have HG := Lib.hid hg
  have HO := Lib.hid hown
  clear hg hown hv
  go_wp2
  go_ret
  exact ⟨o, c, rfl, HO.out, ((Below.refl _ _).alloc (Nat.le_refl _) _).trans (Below.grown (Below.refl _ _) HG.out (by simp) (fun k hk => by simp [Value.ownBlock] at hk; omega))⟩
set_option maxHeartbeats 4000000 in
theorem vintPut_any (oa : Option Addr) (cap : Nat) (l : List Int) (n : Int) (h0 : 0 ≤ n) (h1 : n ≤ 1099511627776) (w : World) (h : SlAt ycells w (.slice oa l.length cap) l) (hl : l.length ≤ 900000) :
  Calls Tryz.prog 171 #[.slice oa l.length cap, .int .i64 n] w fun e w' => ∃ o c bs, bs.length = vlen n.toNat ∧ e = .returned (.tuple #[.slice o (l.length + bs.length) c, .int .i64 0]) ∧ Owns ycells 1 w.heap.size 5 w' (.slice o (l.length + bs.length) c) (l ++ bs) ∧ Below w.heap.size w w' := by
 obtain ⟨k, rfl⟩ : ∃ k : Nat, n = (k : Int) := ⟨n.toNat, by omega⟩
 have n0 : ¬ (k : Int) < 0 := by omega
 have n1 : ¬ (1099511627776 : Int) < (k : Int) := by omega
 have hcl := cloneByte_any (.slice oa l.length cap) l w h (by omega)
 have HCL := Lib.hid hcl
 clear hcl h h0
 go_enter Tryz.func171, Tryz.ntmps171
 go_wp2_with fail
 refine HCL.out.mono ?_
 rintro e w1 ⟨o1, c1, rfl, hown, hb⟩
 have HO := Lib.hid hown
 have HB := Lib.hid hb
 clear hown hb HCL
 go_wp2_with fail
 go_loopg [1, 6] k (fun gk s1 s6 wr => ∃ (j : Nat) (bs : List Int) (o : Option Addr) (c : Nat), s1 = .int .i64 j ∧ s6 = .slice o (l.length + bs.length) c ∧ j ≤ k ∧ j ≤ gk ∧ bs.length + vlen j = vlen k ∧ Hid (Owns ycells 1 w.heap.size 5 wr (.slice o (l.length + bs.length) c) (l ++ bs)) ∧ Hid (Below w.heap.size w wr))
 case atStart => exact ⟨k, [], o1, c1, rfl, rfl, Nat.le_refl _, Nat.le_refl _, by simp, by rw [List.append_nil]; exact HO.out, HB.out⟩
 case round =>
  obtain ⟨j, bs, o, c, rfl, rfl, hjk, hgk, hv, HOB, HBB⟩ := hrel
  by_cases hj : 128 ≤ j
  ·have hjz : (128 : Int) ≤ (j : Int) := by omega
   have hb6 : bs.length ≤ 6 := by have := vlen_le k; omega
   go_wp2_with (at_builtin; refine wpList_app ycells 1 ycells_len (by decide) ycells_one _ rfl _ _ 174 rfl w.heap.size 5 _ 1 Tryz.underlying174 infoByte rfl _ (l ++ bs) rfl ?h1 _ [bits .or .u8 ((j : Int) % 256) 128] rfl ?h2 ?h3 ?h4 ?h5 ?_)
   case h1 => exact HOB.out.below ((Below.refl wr.heap.size wr).alloc (Nat.le_refl _) _) (Nat.le_refl _)
   case h2 => exact (owns_newG ycells_len wr _ 5 [bits .or .u8 ((j : Int) % 256) 128] (by simp [ycells]) (by simp)).at
   case h3 => rw [List.length_append]; simp only [List.length_singleton]; omega
   case h4 => rw [List.length_append]; simp only [List.length_singleton]; omega
   case h5 => have := HBB.out.size; simp; omega
   intro v2 w2 hown2 hg2 hv2
   obtain ⟨o2, c2, hx⟩ := slAt_slice hown2.at
   have hln : (l ++ (bs ++ [bits .or .u8 ((j : Int) % 256) 128])).length = l.length + (bs ++ [bits .or .u8 ((j : Int) % 256) 128]).length := List.length_append
   rw [hln] at hx
   subst hx
   have hB2 : Below w.heap.size w w2 := (HBB.out.alloc HBB.out.size _).grown hg2 (by have := HBB.out.size; simp; omega) fun b hb => (HOB.out.lt b hb).1
   have hv3 : (bs ++ [bits .or .u8 ((j : Int) % 256) 128]).length + vlen (j / 128) = vlen k := by
    have := vlen_more hj (by omega)
    simp only [List.length_append, List.length_singleton]
    omega
   have HO2 := Lib.hid hown2
   have HB2 := Lib.hid hB2
   have HV3 := Lib.hid hv3
   clear hg2 hv2 hown2 hB2 hv3 HOB HBB hln
   generalize bs ++ [bits .or .u8 ((j : Int) % 256) 128] = bs2 at *
   go_wp2_with fail
   go_roundg (j / 128)
   case measure => omega
   case rel => exact ⟨j / 128, bs2, o2, c2, by go_num, rfl, by omega, Nat.le_refl _, HV3.out, HO2.out, HB2.out⟩
  ·have hjz : ¬ (128 : Int) ≤ (j : Int) := by omega
   have hb6 : bs.length ≤ 6 := by have := vlen_le k; omega
   have hv1 : vlen j = 1 := vlen_one (by omega)
   go_wp2_with (at_builtin; refine wpList_app ycells 1 ycells_len (by decide) ycells_one _ rfl _ _ 174 rfl w.heap.size 5 _ 1 Tryz.underlying174 infoByte rfl _ (l ++ bs) rfl ?g1 _ [(j : Int)] rfl ?g2 ?g3 ?g4 ?g5 ?_)
   case g1 => exact HOB.out.below ((Below.refl wr.heap.size wr).alloc (Nat.le_refl _) _) (Nat.le_refl _)
   case g2 => exact (owns_newG ycells_len wr _ 5 [(j : Int)] (by simp [ycells]) (by simp)).at
   case g3 => omega
   case g4 => omega
   case g5 => have := HBB.out.size; simp; omega
   intro v2 w2 hown2 hg2 hv2
   obtain ⟨o2, c2, hx⟩ := slAt_slice hown2.at
   have hln : (l ++ (bs ++ [(j : Int)])).length = l.length + (bs ++ [(j : Int)]).length := List.length_append
   rw [hln] at hx
   subst hx
   have hB2 : Below w.heap.size w w2 := (HBB.out.alloc HBB.out.size _).grown hg2 (by have := HBB.out.size; simp; omega) fun b hb => (HOB.out.lt b hb).1
   have hv3 : (bs ++ [(j : Int)]).length = vlen k := by
    simp only [List.length_append, List.length_singleton]
    omega
   have HO2 := Lib.hid hown2
   have HB2 := Lib.hid hB2
   have HV3 := Lib.hid hv3
   clear hg2 hv2 hown2 hB2 hv3 HOB HBB hln
   generalize bs ++ [(j : Int)] = bs2 at *
   go_wp2_with fail
   go_ret2
   exact ⟨o2, c2, bs2, HV3.out, rfl, HO2.out, HB2.out⟩
end Go.Proofs.YtenkfnhcdfmkaaaGreat
