/-
  The order's Next and Some, walked.
-/
import Derived.Test.YtenkfnhcdfmkaaaGreatMDraw
import Derived.Shelf.Slices.Turned
import Derived.Laws.EntriesVeiled
namespace Go.Proofs.YtenkfnhcdfmkaaaGreat
open Go.Shelf Go.RowKit Go.Lib Go.Sort
set_option linter.unusedVariables false
theorem delete_cap (p : Int → Bool) (g0 : Nat) (lb : Array Value) (eg : ∀ args w, (callFunc g0 args).run Tryz.prog w = .ok (.enter g0 args) w)
  (B : Nat) (v : Value) (l : List Int) (w : World) (hp : ∀ W : World, (∀ k, k < w.heap.size → some k ≠ v.ownBlock → W.heap[k]? = w.heap[k]?) → ∀ x : Int, FnGives Tryz.prog g0 lb #[.int .i64 x] (.bool (p x)) W) (h : Ints B w v l) (hl : l.length ≤ 1000000) :
  Calls Tryz.prog 36 #[v, .func (.func g0) #[] lb] w fun e w' => ∃ v', e = .returned v' ∧ Ints B w' v' (l.filter fun x => !p x) ∧ v'.ownBlock = v.ownBlock ∧ w.grownBy w' v.ownBlock := by
 cases l with
 | nil =>
  obtain ⟨oa, cap, rfl⟩ := slAt_slice h.at
  have hi := AnyE.slices_IndexFunc_empty (P := Tryz.prog) (ρ := laysSlLaysH10_ren) { laysSlLaysH10 with } oa cap (.func (.func g0) #[] lb) w
  have HI := Lib.hid hi
  have HX := Lib.hid h
  clear hi h hp eg
  simp only [List.length_nil]
  go_enter Tryz.func36, Tryz.ntmps36
  go_wp2_with fail
  refine HI.out.mono ?_
  rintro e w' ⟨rfl, rfl⟩
  go_wp2_with fail
  go_ret
  exact ⟨_, rfl, HX.out, rfl, World.grownBy.refl _ _⟩
 | cons x xs =>
  obtain ⟨g, cap, rfl, hB, hg, hc, hH, hO⟩ := h.parts (by simp)
  refine (AnyE.slices_DeleteFunc (P := Tryz.prog) (ρ := laysSlLaysH10_ren) laysSlLaysH10 (Value.int .i64) (fun _ => rfl) p g0 lb eg 0 (fun w => Tryz.zeroValue3 w) g 0 cap (x :: xs).toArray w (fun W y hW => hp W (fun k hk _ => hW.block k hk) y) (fun n os dk y hs => hp (sortWorld (Value.int .i64) w g 0 n dk os) (fun k hk hne => ?_) y) hH (by rw [List.size_toArray]; omega) (by simpa using hc)).mono ?_
  ·unfold sortWorld
   rw [heap_grow_old _ _ (by rw [size_putRow]; exact hk)]
   have : g ≠ k := fun e => hne (by rw [← e]; rfl)
   simp [putRow, mapBlock, Sort.ahead, Array.getElem?_modify, this]
  rintro e w' ⟨rfl, q, rfl⟩
  have hfl := List.length_filter_le (fun x => !p x) (x :: xs)
  have hts : (((x :: xs).filter fun x => !p x) ++ List.replicate ((x :: xs).toArray.size - ((x :: xs).filter fun x => !p x).length) 0).length = (x :: xs).length := by simp only [List.length_append, List.length_replicate, List.size_toArray]; omega
  have ho := hO q #[] _ hts
  have hg2 := grownBy_sortedI (w := w) (g := g) (n := q) (os := #[]) (((x :: xs).filter fun x => !p x) ++ List.replicate ((x :: xs).toArray.size - ((x :: xs).filter fun x => !p x).length) 0).toArray
  rw [grow_empty] at ho hg2
  have ht := ho.take icells_len ((x :: xs).filter fun x => !p x).length (by rw [List.length_append]; omega)
  rw [List.take_left' rfl] at ht
  exact ⟨_, rfl, ht, rfl, hg2⟩
def Obj (T b B : Nat) (W : World) (s : Int) (ws : List Int) : Prop := ∃ v, Ord2 b W s v T ∧ SlAt icells W v ws ∧ b < B ∧ ∀ g, v.ownBlock = some g → B ≤ g
theorem Obj.lt {T b B : Nat} {W : World} {s : Int} {ws : List Int} (h : Obj T b B W s ws) : b < W.heap.size := by obtain ⟨v, h, _⟩ := h; exact h.lt
theorem Obj.grown {T b B r : Nat} {W W' : World} {s : Int} {ws : List Int} (h : Obj T b B W s ws) (hg : W.grownBy W' (some r)) (hr : r < B) (hb : r ≠ b) : Obj T b B W' s ws := by
 obtain ⟨v, h1, h2, h3, h4⟩ := h
 exact ⟨v, h1.keep (hg.block b h1.lt (fun e => hb (by simpa using e.symm))), h2.grown icells_len (by decide) hg (.inr fun e => by have := h4 r e; omega), h3, h4⟩
theorem Obj.below {T b B : Nat} {W W' : World} {s : Int} {ws : List Int} {B' : Nat} (h : Obj T b B W s ws) (hg : Below B' W W') (hB : W.heap.size ≤ B') : Obj T b B W' s ws := by
 obtain ⟨v, h1, h2, h3, h4⟩ := h
 exact ⟨v, h1.keep (hg.block b (Nat.lt_of_lt_of_le h1.lt hB)), h2.below icells_len (by decide) hg hB, h3, h4⟩
def someL (s : Int) (nodes : List Int) (n : Int) : List Int := (shufL s (onceL nodes)).2.take n.toNat
theorem someL_is (s : Int) (nodes : List Int) (n : Int) (k : Nat) (hk : (if ((shufL s (onceL nodes)).2.length : Int) < n then ((shufL s (onceL nodes)).2.length : Int) else if n < 0 then 0 else n) = (k : Int)) : k ≤ (shufL s (onceL nodes)).2.length ∧ someL s nodes n = (shufL s (onceL nodes)).2.take k := by
 unfold someL
 generalize (shufL s (onceL nodes)).2 = l at *
 split at hk
 ·have : k = l.length := by omega
  subst this
  exact ⟨Nat.le_refl _, by rw [List.take_length, List.take_of_length_le (by omega)]⟩
 ·split at hk
  ·have : k = 0 := by omega
   subst this
   exact ⟨Nat.zero_le _, by rw [show n.toNat = 0 by omega]⟩
  ·exact ⟨by omega, by rw [show n.toNat = k by omega]⟩
set_option maxRecDepth 100000 in
set_option maxHeartbeats 4000000 in
theorem some_any (b B : Nat) (s : Int) (ws : List Int) (oa : Option Addr) (cap : Nat) (nodes : List Int) (n : Int) (w : World) (h : Obj 136 b B w s ws) (hs : SlAt icells w (.slice oa nodes.length cap) nodes) (hl : nodes.length ≤ 900000) :
  Calls Tryz.prog 39 #[.pointer (some ⟨b, 0, none⟩), .slice oa nodes.length cap, .int .i64 n] w fun e w' => ∃ v', e = .returned v' ∧ Ints w.heap.size w' v' (someL s nodes n) ∧ Obj 136 b B w' (shufL s (onceL nodes)).1 ws ∧ w.grownBy w' (some b) := by
 obtain ⟨v, h1, h2, hbB, h3⟩ := h
 have hb := h1.lt
 have hc := shuffled_any b s v oa cap nodes w h1 hs hl
 have HC := Lib.hid hc
 have hwi := fun (x : Int) W => withinS_any n 0 x W
 have HWI := Lib.hid hwi
 have hsm := someL_is s nodes n
 obtain ⟨sl, hsl⟩ : ∃ sl, sl = someL s nodes n := ⟨_, rfl⟩
 rw [← hsl] at hsm ⊢
 have HSM := Lib.hid hsm
 have H2 := Lib.hid h2
 clear hc hwi hs h1 hsm h2 hsl
 go_enter Tryz.func39, Tryz.ntmps39
 go_wp2_with fail
 refine HC.out.mono ?_
 rintro e w1 ⟨v1, rfl, ho1, hr1, hg1⟩
 have HR1 := Lib.hid hr1
 have HG1 := Lib.hid hg1
 obtain ⟨o1, c1, rfl⟩ := slAt_slice ho1.at
 have hcl : (shufL s (onceL nodes)).2.length ≤ c1 := by
  obtain ⟨oq, cq, hv6, hcap6⟩ := ho1.at.slice_of
  simp only [Value.slice.injEq] at hv6
  omega
 have HO1 := Lib.hid ho1
 clear hr1 hg1 ho1 HC
 go_wp2_with fail
 refine (HWI.out _ _).mono ?_
 rintro e w2 ⟨rfl, rfl⟩
 obtain ⟨k, hk⟩ : ∃ k : Nat, (if ((shufL s (onceL nodes)).2.length : Int) < n then ((shufL s (onceL nodes)).2.length : Int) else if n < 0 then 0 else n) = (k : Int) := by
  refine ⟨(if ((shufL s (onceL nodes)).2.length : Int) < n then ((shufL s (onceL nodes)).2.length : Int) else if n < 0 then 0 else n).toNat, ?_⟩
  generalize (shufL s (onceL nodes)).2.length = m
  split
  ·omega
  ·split <;> omega
 obtain ⟨hkl, hse⟩ := HSM.out k hk
 have hz : (k : Int) ≤ (c1 : Int) := by omega
 have hz1 : k ≤ c1 := by omega
 have hz0 : (0 : Int) ≤ (k : Int) := by omega
 have ho := HO1.out.take icells_len k hkl
 rw [← hse] at ho
 have HO := Lib.hid ho
 rw [hk]
 clear HSM HO1 HWI ho hse hk
 go_wp2_with fail
 all_goals
  go_ret
  refine ⟨_, rfl, ?_, ⟨v, HR1.out, H2.out.grown icells_len (by decide) HG1.out (.inr fun e => by have := h3 b e; omega), hbB, h3⟩, HG1.out⟩
  first
   | exact HO.out
   | (have := HO.out; simpa [Addr.add] using this)
end Go.Proofs.YtenkfnhcdfmkaaaGreat
