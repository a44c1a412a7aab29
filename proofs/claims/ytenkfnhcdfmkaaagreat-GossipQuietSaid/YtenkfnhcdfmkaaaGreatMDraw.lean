/-
  Both Draws: the next number behind one, and a number below another one.
  Plain facts of layer 19: numbers each once, the least first; a list shuffled by draws.
  probe.shuffled and the reference's shuffle: each exchange where the draw says.
-/
import Derived.Test.YtenkfnhcdfmkaaaGreatMix
import Derived.Test.YtenkfnhcdfmkaaaGreatIntRow
import Derived.Deep.QuietTactic
import Derived.BigQuiet
import Derived.IntWalk
import Derived.Test.YtenkfnhcdfmkaaaGreatMSortPure
import Derived.Shelf.Abstract
import Derived.Shelf.SlSortCmp.Kit1
import Derived.Sort.WalkA
import Derived.Sort.WalkB2
import Derived.Sort.WalkB12
import Derived.Deep.LoopGhost
namespace Go.Proofs.YtenkfnhcdfmkaaaGreat
open Go.Shelf Go.RowKit Go.Lib Go.Sort
set_option linter.unusedVariables false
def nextS (s : Int) : Int := IntKind.u64.wrap (s + 11400714819323198485)
def drawK (s n : Int) : Int := wrap64 ((stirI (nextS s)).tmod n)
theorem xor_nonneg {a b : Int} (ha : 0 ≤ a) (ha1 : a < 18446744073709551616) (hb : 0 ≤ b) (hb1 : b < 18446744073709551616) : 0 ≤ bits BinOp.xor IntKind.u64 a b := by
 obtain ⟨m, rfl⟩ := Int.eq_ofNat_of_zero_le ha
 obtain ⟨k, rfl⟩ := Int.eq_ofNat_of_zero_le hb
 rw [bits_xor_u64_nat m k (by omega) (by omega)]
 omega
theorem stirI_nonneg (x : Int) : 0 ≤ stirI x := by
 unfold stirI mix2
 generalize bits BinOp.xor IntKind.u64 (mix1 x) (mix1 x / 134217728) * 10723151780598845931 = y
 have h0 : 0 ≤ IntKind.u64.wrap y ∧ IntKind.u64.wrap y < 18446744073709551616 := by rw [IntKind.wrap_u64]; omega
 exact xor_nonneg h0.1 h0.2 (by omega) (by omega)
theorem drawK_bounds (s n : Int) (h0 : 0 < n) (h1 : n ≤ 1000000) : 0 ≤ drawK s n ∧ drawK s n < n := by
 have hx := stirI_nonneg (nextS s)
 unfold drawK
 generalize stirI (nextS s) = x at *
 rw [Int.tmod_eq_emod_of_nonneg hx]
 have k0 := Int.emod_nonneg x (show n ≠ 0 by omega)
 have k1 := Int.emod_lt_of_pos x h0
 unfold wrap64
 omega
set_option maxHeartbeats 1000000 in
theorem draw_any (s : Int) (n : Int) (h0 : 0 < n) (h1 : n ≤ 1000000) (W : World) : Calls Tryz.prog 111 #[.int .u64 s, .int .i64 n] W fun e w' => e = .returned (.tuple #[.int .u64 (nextS s), .int .i64 (drawK s n)]) ∧ w' = W := by
 have hn : IntKind.u64.wrap n = n := by rw [IntKind.wrap_u64]; omega
 have hst := fun s' W => stir_any s' W
 have HST := Lib.hid hst
 clear hst
 go_enter Tryz.func111, Tryz.ntmps111
 go_wp2_with fail
 refine (HST.out _ _).mono ?_
 rintro e w1 ⟨rfl, rfl⟩
 go_wp2_with fail
 go_ret2
 exact ⟨rfl, rfl⟩
structure Ord2 (b : Nat) (W : World) (s : Int) (v : Value) (t : TypeId) : Prop where
 heap : W.heap[b]? = some (.cells #[.int .u64 s, v] t)
theorem Ord2.cell0 {b : Nat} {W : World} {s : Int} {v : Value} {t : TypeId} (h : Ord2 b W s v t) : W.cell? ⟨b, 0, none⟩ = some (.int .u64 s) := by rw [cell_of_row _ b 0 _ _ _ h.heap]; rfl
theorem Ord2.frozen {b : Nat} {W : World} {s : Int} {v : Value} {t : TypeId} (h : Ord2 b W s v t) (n : Nat) : W.frozen? ⟨b, n, none⟩ = false := by simp [World.frozen?, h.heap]
theorem Ord2.lt {b : Nat} {W : World} {s : Int} {v : Value} {t : TypeId} (h : Ord2 b W s v t) : b < W.heap.size := (Array.getElem?_eq_some_iff.1 h.heap).1
theorem Ord2.keep {b : Nat} {W W' : World} {s : Int} {v : Value} {t : TypeId} (h : Ord2 b W s v t) (e : W'.heap[b]? = W.heap[b]?) : Ord2 b W' s v t := ⟨e.trans h.heap⟩
theorem heap_setCell_same (w : World) (g o : Nat) (v : Value) (cur : Array Value) (e : TypeId) (fr : Nat × Nat) (h : w.heap[g]? = some (.cells cur e fr)) : (w.setCell ⟨g, o, none⟩ v).heap[g]? = some (.cells (cur.setIfInBounds o v) e fr) := by
 rw [setCell_eq]
 simp [mapBlock, Array.getElem?_modify, h, onCells]
theorem Ord2.set0 {b : Nat} {W : World} {s : Int} {v : Value} {t : TypeId} (h : Ord2 b W s v t) (s' : Int) : Ord2 b (W.setCell ⟨b, 0, none⟩ (.int .u64 s')) s' v t := ⟨by rw [heap_setCell_same _ _ _ _ _ _ _ h.heap]; rfl⟩
set_option maxHeartbeats 1000000 in
theorem drawOf_any (b : Nat) (s : Int) (v : Value) (n : Int) (h0 : 0 < n) (h1 : n ≤ 1000000) (W : World) (h : Ord2 b W s v 136) : Calls Tryz.prog 80 #[.pointer (some ⟨b, 0, none⟩), .int .i64 n] W fun e w' => e = .returned (.int .i64 (drawK s n)) ∧ w' = W.setCell ⟨b, 0, none⟩ (.int .u64 (nextS s)) := by
 have c0 := h.cell0
 have f0 := h.frozen 0
 have hd := draw_any s n h0 h1 W
 have HD := Lib.hid hd
 clear hd h
 go_enter Tryz.func80, Tryz.ntmps80
 go_wp2_with fail
 refine HD.out.mono ?_
 rintro e w1 ⟨rfl, rfl⟩
 go_wp2_with fail
 go_ret
 exact ⟨rfl, rfl⟩
set_option maxHeartbeats 1000000 in
theorem new_any (s : Int) (W : World) : Calls Tryz.prog 33 #[.int .u64 s] W fun e w' => e = .returned (.pointer (some ⟨W.heap.size, 0, none⟩)) ∧ w' = W.alloc (.cells #[.int .u64 s, .slice none 0 0] 136) := by
 go_enter Tryz.func33, Tryz.ntmps33
 go_wp2_with fail
 go_ret
 exact ⟨rfl, rfl⟩
end Go.Proofs.YtenkfnhcdfmkaaaGreat
namespace Go.Proofs.YtenkfnhcdfmkaaaGreat
open Go.Shelf Go.RowKit Go.Lib Go.Sort
set_option linter.unusedVariables false
def onceL (l : List Int) : List Int := Lib.compact (l.mergeSort fun x y => decide (x ≤ y))
theorem onceL_len (l : List Int) : (onceL l).length ≤ l.length := by
 have := compact_len (l.mergeSort fun x y => decide (x ≤ y))
 rw [List.length_mergeSort] at this
 exact this
def swapL (l : List Int) (i k : Nat) : List Int := (l.set i (l.getD k 0)).set k (l.getD i 0)
theorem swapL_len (l : List Int) (i k : Nat) : (swapL l i k).length = l.length := by unfold swapL; simp
def shufUp : Nat → Int → List Int → Int × List Int
 | 0, s, l => (s, l)
 | i + 1, s, l => shufUp i (nextS s) (swapL l (i + 1) (drawK s ((i : Int) + 1 + 1)).toNat)
def shufL (s : Int) (l : List Int) : Int × List Int := shufUp (l.length - 1) s l
theorem shufUp_len : ∀ (i : Nat) (s : Int) (l : List Int), (shufUp i s l).2.length = l.length
 | 0, _, _ => rfl
 | i + 1, s, l => by rw [shufUp, shufUp_len, swapL_len]
theorem shufL_len (s : Int) (l : List Int) : (shufL s l).2.length = l.length := shufUp_len _ _ _
end Go.Proofs.YtenkfnhcdfmkaaaGreat
namespace Go.Proofs.YtenkfnhcdfmkaaaGreat
open Go.Shelf Go.RowKit Go.Lib Go.Sort
set_option linter.unusedVariables false
theorem withinS_any (n lo hi : Int) (w : World) :
  Calls Tryz.prog 32 #[.int .i64 n, .int .i64 lo, .int .i64 hi] w fun e w' => e = .returned (.int .i64 (if hi < n then hi else if n < lo then lo else n)) ∧ w = w' := by
 go_enter Tryz.func32, Tryz.ntmps32
 go_wp2
 all_goals (go_ret; refine ⟨?_, rfl⟩; (repeat' split) <;> first | rfl | omega)
theorem gb_then {a b c : World} {row row' : Option Nat} (h : a.grownBy b row) (k : b.grownBy c row') (hr : ∀ j, row' = some j → a.heap.size ≤ j ∨ row = some j) : a.grownBy c row :=
 ⟨k.os.trans h.os, k.tape.trans h.tape, k.output.trans h.output, Nat.le_trans h.size k.size, fun i hi hne =>
  (k.block i (Nat.lt_of_lt_of_le hi h.size) (fun e => by
   rcases hr i e.symm with h1 | h1
   ·omega
   ·exact hne h1.symm)).trans (h.block i hi hne)⟩
theorem gb_below {a b c : World} {row : Option Nat} {B : Nat} (h : a.grownBy b row) (k : Below B b c) (hB : a.heap.size ≤ B) : a.grownBy c row :=
 ⟨k.os.trans h.os, k.tape.trans h.tape, k.output.trans h.output, Nat.le_trans h.size k.size, fun i hi hne => (k.block i (Nat.lt_of_lt_of_le hi hB)).trans (h.block i hi hne)⟩
theorem gb_set (w : World) (b o : Nat) (v : Value) : w.grownBy (w.setCell ⟨b, o, none⟩ v) (some b) := by
 refine ⟨rfl, rfl, rfl, by simp [World.setCell], fun i hi hne => ?_⟩
 simp only [World.setCell, Array.getElem?_modify]
 rw [if_neg (fun e => hne (by rw [e]))]
theorem gb_drew (w : World) (row : Option Nat) : w.grownBy w.drew row := ⟨rfl, rfl, rfl, Nat.le_refl _, fun _ _ _ => rfl⟩
theorem Owns.turn {B g n cap : Nat} {e : Nat} {w : World} {l : List Int} (h : Owns icells 1 B e w (.slice (some ⟨g, 0, none⟩) n cap) l) (i : Nat) (x : Int) (hi : i < l.length) :
  Owns icells 1 B e (w.setCell ⟨g, i, none⟩ (.int .i64 x)) (.slice (some ⟨g, 0, none⟩) n cap) (l.set i x) := by
 obtain ⟨h1, h2⟩ := h
 refine ⟨by simp [icells_flat], ?_⟩
 rcases h2 with ⟨hv, hn⟩ | ⟨g', cap', cur, hv, hb, hh, hc, hm, hs, ht⟩
 ·cases hv
 ·simp only [Value.slice.injEq, Option.some.injEq, Addr.mk.injEq] at hv
  obtain ⟨⟨rfl, _, _⟩, rfl, rfl⟩ := hv
  refine .inr ⟨g, cap, cur.setIfInBounds i (.int .i64 x), by simp, hb, heap_setCell_same _ _ _ _ _ _ _ hh, by simpa using hc, hm, by simpa using hs, ?_⟩
  rw [icells_flat] at ht ⊢
  simp only [List.length_set, Nat.mul_one, Array.toList_setIfInBounds] at ht ⊢
  rw [List.take_set, ht, List.map_set]
theorem Owns.cellI {B g n cap : Nat} {e : Nat} {w : World} {l : List Int} (h : Owns icells 1 B e w (.slice (some ⟨g, 0, none⟩) n cap) l) (i : Nat) (hi : i < l.length) : w.cell? ⟨g, i, none⟩ = some (.int .i64 (l.getD i 0)) := by
 have := h.at
 obtain ⟨oa, cap', hv, _⟩ := this.slice_of
 simp only [Value.slice.injEq] at hv
 obtain ⟨_, rfl, _⟩ := hv
 have := this.cell icells_len (i := i) (c := 0) hi (by decide)
 simpa [icells, List.getD, List.getElem?_eq_getElem hi] using this
theorem Owns.freeI {B g n cap : Nat} {e : Nat} {w : World} {l : List Int} (h : Owns icells 1 B e w (.slice (some ⟨g, 0, none⟩) n cap) l) (i : Nat) : w.frozen? ⟨g, i, none⟩ = false := by
 rcases h.2 with ⟨hv, hn⟩ | ⟨g', cap', cur, hv, hb, hh, hc, hm, hs, ht⟩
 ·cases hv
 ·simp only [Value.slice.injEq, Option.some.injEq, Addr.mk.injEq] at hv
  obtain ⟨⟨rfl, _, _⟩, rfl, rfl⟩ := hv
  simp [World.frozen?, hh]
theorem Owns.swapped {B g n cap : Nat} {e : Nat} {w : World} {l : List Int} (h : Owns icells 1 B e w (.slice (some ⟨g, 0, none⟩) n cap) l) (i k : Nat) (hi : i < l.length) (hk : k < l.length) :
  Owns icells 1 B e ((w.setCell ⟨g, i, none⟩ (.int .i64 (l.getD k 0))).setCell ⟨g, k, none⟩ (.int .i64 (l.getD i 0))) (.slice (some ⟨g, 0, none⟩) n cap) (swapL l i k) :=
 (h.turn i _ hi).turn k _ (by simpa using hk)
set_option maxRecDepth 100000 in
set_option maxHeartbeats 4000000 in
theorem shuffled_any (b : Nat) (s : Int) (v0 : Value) (oa : Option Addr) (cap : Nat) (l : List Int) (w : World) (h : Ord2 b w s v0 136) (hs : SlAt icells w (.slice oa l.length cap) l) (hl : l.length ≤ 900000) :
  Calls Tryz.prog 79 #[.slice oa l.length cap, .func (.func 80) #[.pointer (some ⟨b, 0, none⟩)] #[]] w fun e w' => ∃ v', e = .returned v' ∧ Ints w.heap.size w' v' (shufL s (onceL l)).2 ∧ Ord2 b w' (shufL s (onceL l)).1 v0 136 ∧ w.grownBy w' (some b) := by
 have hb := h.lt
 have hc := clone_any oa cap l w hs (by omega)
 have HC := Lib.hid hc
 have H := Lib.hid h
 have eg : ∀ args w, (callFunc 80 args).run Tryz.prog w = .ok (.enter 80 args) w := enters_of Tryz.func80 (by kernel_rfl) rfl
 clear hc h hs
 obtain ⟨l0, hl0⟩ : ∃ l0, l0 = onceL l := ⟨_, rfl⟩
 have hll : l0.length ≤ l.length := by rw [hl0]; exact onceL_len l
 have hcl : compact (l.mergeSort fun x y => decide (x ≤ y)) = l0 := hl0.symm
 rw [← hl0]
 have HCL := Lib.hid hcl
 clear hcl hl0
 go_enter Tryz.func79, Tryz.ntmps79
 go_wp2_with fail
 refine HC.out.mono ?_
 rintro e w1 ⟨v1, rfl, ho1, hb1⟩
 have HO1 := Lib.hid ho1
 have HB1 := Lib.hid hb1
 clear ho1 hb1
 go_wp2_with fail
 refine (sort_any _ _ _ _ HO1.out (by omega)).mono ?_
 rintro e w2 ⟨rfl, ho2, hg2⟩
 have HO2 := Lib.hid ho2
 have HB2 := Lib.hid (HB1.out.grown hg2 HB1.out.size fun j hj => (HO1.out.lt j hj).1)
 clear ho2 hg2
 go_wp2_with fail
 refine (compact_any _ _ _ _ HO2.out (by rw [List.length_mergeSort]; omega)).mono ?_
 rintro e w3 ⟨v3, rfl, ho3, hv3, hg3⟩
 have hb3 := HB2.out.grown hg3 HB2.out.size fun j hj => (HO2.out.lt j hj).1
 rw [HCL.out] at ho3
 have HR3 := Lib.hid (H.out.keep (hb3.block b hb))
 have HG3 := Lib.hid (gb_below (World.grownBy.refl w (some b)) hb3 (Nat.le_refl _))
 obtain ⟨o3, c3, rfl⟩ := slAt_slice ho3.at
 have HO3 := Lib.hid ho3
 have HS0 := Lib.hid (show shufUp (l0.length - 1) s l0 = shufL s l0 from rfl)
 clear ho3 hv3 hg3 hb3 HB1 HB2 HO1 HO2 HC H
 have hlen : ∀ i s' l', shufUp i s' l' = shufL s l0 → l'.length = l0.length := fun i s' l' e => by
  have := congrArg (fun x => x.2.length) e
  simp only [shufUp_len, shufL_len] at this
  omega
 have HL := Lib.hid hlen
 clear hlen
 go_wp2_with fail
 go_loopg [5] l0.length (fun gk s5 wr => ∃ (i : Nat) (iv s' : Int) (l' : List Int), s5 = .int .i64 iv ∧ iv.toNat = i ∧ -1 ≤ iv ∧ i ≤ gk ∧ (i = 0 ∨ i < l0.length) ∧ Hid (Ints w.heap.size wr (.slice o3 l0.length c3) l') ∧ Hid (Ord2 b wr s' v0 136) ∧ Hid (w.grownBy wr (some b)) ∧ Hid (shufUp i s' l' = shufL s l0))
 case atStart => exact ⟨l0.length - 1, (l0.length : Int) - 1, s, l0, by go_num, by omega, by omega, by omega, by omega, HO3, HR3, HG3, HS0⟩
 case round =>
  clear HO3 HR3 HG3 HS0
  obtain ⟨i, iv, s', l', rfl, hi, hm, hgk, hin, HO, HR, HG, HS⟩ := hrel
  by_cases hlt : 0 < i
  ·obtain ⟨j, rfl⟩ : ∃ j, i = j + 1 := ⟨i - 1, by omega⟩
   obtain rfl : iv = (j : Int) + 1 := by omega
   have hgt : (j : Int) + 1 > 0 := by omega
   obtain ⟨k0, k1⟩ := drawK_bounds s' ((j : Int) + 1 + 1) (by omega) (by omega)
   have hln : l'.length = l0.length := HL.out _ _ _ HS.out
   have hd := drawOf_any b s' v0 ((j : Int) + 1 + 1) (by omega) (by omega) wr HR.out
   have hst : shufUp j (nextS s') (swapL l' (j + 1) (drawK s' ((j : Int) + 1 + 1)).toNat) = shufL s l0 := HS.out
   generalize drawK s' ((j : Int) + 1 + 1) = kk at *
   obtain ⟨k, rfl⟩ := Int.eq_ofNat_of_zero_le k0
   have hkn : k < l0.length := by omega
   rw [Int.toNat_natCast] at hst
   have HD := Lib.hid hd
   have HST := Lib.hid hst
   obtain ⟨g, off, hg0⟩ := HO.out.at.plain icells_len (by decide) (by intro e; rw [e] at hln; simp at hln; omega)
   subst hg0
   have hoff : off = 0 := by
    rcases HO.out.2 with ⟨hv, _⟩ | ⟨g', cap', cur, hv, _⟩
    ·cases hv
    ·simp only [Value.slice.injEq, Option.some.injEq, Addr.mk.injEq] at hv; exact hv.1.2.1
   subst hoff
   clear hd hst HS
   go_wp2_with (go_at_fn 80; refine HD.out.mono ?_; rintro e w4 ⟨rfl, rfl⟩)
   have hgb : w.heap.size ≤ g := (HO.out.lt g rfl).1
   have ho5 : Ints w.heap.size (wr.setCell ⟨b, 0, none⟩ (.int .u64 (nextS s'))) (.slice (some ⟨g, 0, none⟩) l0.length c3) l' := HO.out.keep fun g' hg' => by
    obtain rfl : g = g' := by simpa [Value.ownBlock] using hg'
    exact (gb_set wr b 0 _).block g (HO.out.lt g rfl).2 (by simp; omega)
   have hr5 := HR.out.set0 (nextS s')
   have hg5 := gb_then HG.out (gb_set wr b 0 (.int .u64 (nextS s'))) fun q hq => .inr hq
   generalize wr.setCell ⟨b, 0, none⟩ (.int .u64 (nextS s')) = w5 at *
   clear HO HR HG HD
   obtain ⟨iN, hiN⟩ : ∃ q, q = j + 1 := ⟨_, rfl⟩
   have hi' : iN < l'.length := by omega
   have hk' : k < l'.length := by omega
   have ea : ((j : Int) + 1).toNat = iN := by omega
   have pa : (0 : Int) ≤ (j : Int) + 1 := by omega
   have ba : (j : Int) + 1 < (l0.length : Int) := by omega
   have ra : IntKind.i64.wrap ((j : Int) + 1) = (j : Int) + 1 := by rw [IntKind.wrap_i64]; omega
   have pc : (0 : Int) ≤ (k : Int) := by omega
   have bc : (k : Int) < (l0.length : Int) := by omega
   have rc : IntKind.i64.wrap (k : Int) = (k : Int) := by rw [IntKind.wrap_i64]; omega
   have c1 := ho5.cellI iN hi'
   have c2 := ho5.cellI k hk'
   have f1 := ho5.freeI iN
   have f2 := ho5.freeI k
   have ho6 := ho5.swapped iN k hi' hk'
   have c3' := (ho5.turn iN (l'.getD k 0) hi').cellI k (by simpa using hk')
   have f3' := (ho5.turn iN (l'.getD k 0) hi').freeI k
   have hg6 := gb_then (gb_then hg5 (gb_set w5 g iN (.int .i64 (l'.getD k 0))) fun q hq => .inl (by cases hq; exact hgb)) (gb_set _ g k (.int .i64 (l'.getD iN 0))) fun q hq => .inl (by cases hq; exact hgb)
   have hr6 : Ord2 b ((w5.setCell ⟨g, iN, none⟩ (.int .i64 (l'.getD k 0))).setCell ⟨g, k, none⟩ (.int .i64 (l'.getD iN 0))) (nextS s') v0 136 :=
    (hr5.keep ((gb_set w5 g iN (.int .i64 (l'.getD k 0))).block b hr5.lt (by simp; omega))).keep ((gb_set _ g k (.int .i64 (l'.getD iN 0))).block b (by simpa [World.setCell] using hr5.lt) (by simp; omega))
   have HO6 := Lib.hid (show Ints w.heap.size ((w5.setCell ⟨g, iN, none⟩ (.int .i64 (l'.getD k 0))).setCell ⟨g, k, none⟩ (.int .i64 (l'.getD iN 0))) (.slice (some ⟨g, 0, none⟩) l0.length c3) (swapL l' (j + 1) k) by rw [← hiN]; exact ho6)
   have HR6 := Lib.hid hr6
   have HG6 := Lib.hid hg6
   clear ho5 hr5 hg5 ho6 hr6 hg6 hiN
   generalize (swapL l' (j + 1) k) = l6 at *
   generalize l'.getD k 0 = xk at *
   generalize l'.getD iN 0 = xi at *
   generalize (l'.set iN xk).getD k 0 = x3 at *
   have mixed : Tryz.prog.follows .mixedOrders = true := by kernel_rfl
   clear hi
   go_wp2_with fail
   go_big_region_o
   clear c1 c2 c3' f1 f2 f3'
   generalize (w5.setCell ⟨g, iN, none⟩ (.int .i64 xk)).setCell ⟨g, k, none⟩ (.int .i64 xi) = w6 at *
   go_wp2_with fail
   go_roundg j
   case measure => omega
   case rel => exact ⟨j, (j : Int), nextS s', l6, by go_num, by omega, by omega, Nat.le_refl _, by omega, HO6.out.keep fun _ _ => rfl, HR6.out.keep rfl, gb_then HG6.out (gb_drew _ (some b)) fun q hq => .inr hq, HST⟩
  ·have hgt : ¬ iv > 0 := by omega
   obtain rfl : i = 0 := by omega
   have hs : (s', l') = shufL s l0 := HS.out
   have HE := Lib.hid hs
   clear hs HS
   go_wp2_with fail
   go_ret
   refine ⟨_, rfl, ?_, ?_, HG.out⟩
   ·rw [← HE.out]; exact HO.out
   ·rw [← HE.out]; exact HR.out
end Go.Proofs.YtenkfnhcdfmkaaaGreat
