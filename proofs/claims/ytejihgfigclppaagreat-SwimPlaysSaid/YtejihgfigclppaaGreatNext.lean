/-
  The order's Next and Some, walked.
-/
import Derived.Test.YtejihgfigclppaaGreatMDraw
import Derived.Shelf.Slices.Turned
import Derived.Laws.EntriesVeiled
namespace Go.Proofs.YtejihgfigclppaaGreat
open Go.Shelf Go.RowKit Go.Lib Go.Sort
set_option linter.unusedVariables false
theorem contains_any (oa : Option Addr) (cap : Nat) (l : List Int) (x : Int) (w : World) (h : SlAt icells w (.slice oa l.length cap) l) (hl : l.length ≤ 1000000) :
  Calls Tryz.prog 113 #[.slice oa l.length cap, .int .i64 x] w fun e w' => e = .returned (.bool (l.contains x)) ∧ w' = w := by
 cases l with
 | nil =>
  refine (Any.slices_Contains_int_empty laysLays107 oa cap x w).mono ?_
  rintro e w' ⟨rfl, rfl⟩
  exact ⟨rfl, rfl⟩
 | cons a l =>
  obtain ⟨b, off, rfl⟩ := h.plain icells_len (by decide) (by simp)
  refine (Any.slices_Contains_int laysLays107 b off (a :: l).length cap (a :: l) x w (Nat.le_refl _) (by omega) (fun j hj => ?_)).mono ?_
  ·have := h.cell icells_len (i := j) (c := 0) hj (by decide)
   rw [Nat.mul_one, Nat.add_zero] at this
   rw [this]
   simp [icells, List.getD, List.getElem?_eq_getElem hj]
  ·rintro e w' ⟨rfl, rfl⟩
   rw [List.take_length]
   exact ⟨rfl, rfl⟩
theorem delete_cap (p : Int → Bool) (g0 : Nat) (lb : Array Value) (eg : ∀ args w, (callFunc g0 args).run Tryz.prog w = .ok (.enter g0 args) w)
  (B : Nat) (v : Value) (l : List Int) (w : World) (hp : ∀ W : World, (∀ k, k < w.heap.size → some k ≠ v.ownBlock → W.heap[k]? = w.heap[k]?) → ∀ x : Int, FnGives Tryz.prog g0 lb #[.int .i64 x] (.bool (p x)) W) (h : Ints B w v l) (hl : l.length ≤ 1000000) :
  Calls Tryz.prog 84 #[v, .func (.func g0) #[] lb] w fun e w' => ∃ v', e = .returned v' ∧ Ints B w' v' (l.filter fun x => !p x) ∧ v'.ownBlock = v.ownBlock ∧ w.grownBy w' v.ownBlock := by
 cases l with
 | nil =>
  obtain ⟨oa, cap, rfl⟩ := slAt_slice h.at
  have hi := AnyE.slices_IndexFunc_empty (P := Tryz.prog) (ρ := laysSlLaysH10_ren) { laysSlLaysH10 with } oa cap (.func (.func g0) #[] lb) w
  have HI := Lib.hid hi
  have HX := Lib.hid h
  clear hi h hp eg
  simp only [List.length_nil]
  go_enter Tryz.func84, Tryz.ntmps84
  go_wp2_with fail
  refine HI.out.mono ?_
  rintro e w' ⟨rfl, rfl⟩
  go_wp2_with fail
  go_ret
  exact ⟨_, rfl, HX.out, rfl, World.grownBy.refl _ _⟩
 | cons x xs =>
  obtain ⟨g, cap, rfl, hB, hg, hc, hH, hO⟩ := h.parts (by simp)
  refine (AnyE.slices_DeleteFunc (P := Tryz.prog) (ρ := laysSlLaysH10_ren) laysSlLaysH10 (Value.int .i64) (fun _ => rfl) p g0 lb eg 0 (fun w => Tryz.zeroValue3 w) g 0 cap (x :: xs).toArray w (fun W y hW => hp W (fun k hk _ => hW.block k hk) y) (fun n os dk y hs => hp (sortWorld (Value.int .i64) w g 0 n dk os) (fun k hk hne => ?_) y) hH (by rw [List.size_toArray]; omega) (by simpa using hc)).mono ?_
  ·unfold sortWorld
   rw [heap_grow_old _ _ (by rw [size_putRow]; exact hk)]
   have : g ≠ k := fun e => hne (by rw [← e]; rfl)
   simp [putRow, mapBlock, Sort.ahead, Array.getElem?_modify, this]
  rintro e w' ⟨rfl, q, rfl⟩
  have hfl := List.length_filter_le (fun x => !p x) (x :: xs)
  have hts : (((x :: xs).filter fun x => !p x) ++ List.replicate ((x :: xs).toArray.size - ((x :: xs).filter fun x => !p x).length) 0).length = (x :: xs).length := by simp only [List.length_append, List.length_replicate, List.size_toArray]; omega
  have ho := hO q #[] _ hts
  have hg2 := grownBy_sortedI (w := w) (g := g) (n := q) (os := #[]) (((x :: xs).filter fun x => !p x) ++ List.replicate ((x :: xs).toArray.size - ((x :: xs).filter fun x => !p x).length) 0).toArray
  rw [grow_empty] at ho hg2
  have ht := ho.take icells_len ((x :: xs).filter fun x => !p x).length (by rw [List.length_append]; omega)
  rw [List.take_left' rfl] at ht
  exact ⟨_, rfl, ht, rfl, hg2⟩
def goneL (nodes : List Int) (x : Int) : Bool := !nodes.contains x
theorem pred_any (c : Nat) (oa : Option Addr) (cap : Nat) (nodes : List Int) (x : Int) (W : World) (hc : W.cell? ⟨c, 0, none⟩ = some (.slice oa nodes.length cap)) (h : SlAt icells W (.slice oa nodes.length cap) nodes) (hl : nodes.length ≤ 1000000) :
  FnGives Tryz.prog 112 #[.pointer (some ⟨c, 0, none⟩)] #[.int .i64 x] (.bool (goneL nodes x)) W := by
 unfold FnGives
 rw [show goneL nodes x = !decide (x ∈ nodes) from by simp [goneL]]
 have hi := contains_any oa cap nodes x W h hl
 have HI := Lib.hid hi
 clear hi h
 simp only [List.append_toArray, List.cons_append, List.nil_append]
 go_enter Tryz.func112, Tryz.ntmps112
 go_wp2_with fail
 refine HI.out.mono ?_
 rintro e w' ⟨rfl, rfl⟩
 go_wp2_with fail
 go_ret
 exact ⟨rfl, 0, rfl⟩
def Obj (T b B : Nat) (W : World) (s : Int) (ws : List Int) : Prop := ∃ v, Ord2 b W s v T ∧ SlAt icells W v ws ∧ b < B ∧ ∀ g, v.ownBlock = some g → B ≤ g
theorem Obj.lt {T b B : Nat} {W : World} {s : Int} {ws : List Int} (h : Obj T b B W s ws) : b < W.heap.size := by obtain ⟨v, h, _⟩ := h; exact h.lt
theorem Obj.grown {T b B r : Nat} {W W' : World} {s : Int} {ws : List Int} (h : Obj T b B W s ws) (hg : W.grownBy W' (some r)) (hr : r < B) (hb : r ≠ b) : Obj T b B W' s ws := by
 obtain ⟨v, h1, h2, h3, h4⟩ := h
 exact ⟨v, h1.keep (hg.block b h1.lt (fun e => hb (by simpa using e.symm))), h2.grown icells_len (by decide) hg (.inr fun e => by have := h4 r e; omega), h3, h4⟩
theorem Obj.below {T b B : Nat} {W W' : World} {s : Int} {ws : List Int} {B' : Nat} (h : Obj T b B W s ws) (hg : Below B' W W') (hB : W.heap.size ≤ B') : Obj T b B W' s ws := by
 obtain ⟨v, h1, h2, h3, h4⟩ := h
 exact ⟨v, h1.keep (hg.block b (Nat.lt_of_lt_of_le h1.lt hB)), h2.below icells_len (by decide) hg hB, h3, h4⟩
def nextL (s : Int) (ws nodes : List Int) : Int × List Int := if ws.filter (fun x => !goneL nodes x) = [] then shufL s (onceL nodes) else (s, ws.filter (fun x => !goneL nodes x))
theorem nextL_ne (s : Int) (ws nodes : List Int) (h : nodes ≠ []) : (nextL s ws nodes).2 ≠ [] := by
 unfold nextL
 split
 ·intro e
  have := congrArg List.length e
  rw [shufL_len] at this
  exact onceL_nil h (List.eq_nil_of_length_eq_zero this)
 ·assumption
set_option maxRecDepth 100000 in
set_option maxHeartbeats 4000000 in
theorem nextNone_any (b : Nat) (oa : Option Addr) (cap : Nat) (w : World) :
  Calls Tryz.prog 87 #[.pointer (some ⟨b, 0, none⟩), .slice oa 0 cap] w fun e w' => e = .returned (.tuple #[.int .i64 0, .bool false]) ∧ Below w.heap.size w w' := by
 go_enter Tryz.func87, Tryz.ntmps87
 go_wp2_with fail
 go_ret2
 exact ⟨rfl, (Below.refl _ _).alloc (Nat.le_refl _) _⟩
theorem Obj.pop {T b B g off c : Nat} {W : World} {s : Int} {l : List Int} (h : Ord2 b W s (.slice (some ⟨g, off, none⟩) l.length c) T) (hs : SlAt icells W (.slice (some ⟨g, off, none⟩) l.length c) l) (hB : b < B) (hgB : B ≤ g) (h1 : 1 ≤ l.length) :
  Obj T b B (W.setCell ⟨b, 1, none⟩ (sliced (some ⟨g, off, none⟩) 1 l.length c 1)) s l.tail := by
 have hsub := hs.sub icells_len (by decide) 1 l.length h1 (Nat.le_refl _)
 rw [List.take_length, List.drop_one] at hsub
 have hob : (sliced (some ⟨g, off, none⟩) 1 l.length c 1).ownBlock = some g := by unfold sliced; split <;> rfl
 exact ⟨_, h.set1 _, hsub.grown icells_len (by decide) (gb_set W b 1 _) (.inr (by rw [hob]; simp; omega)), hB, fun g' hg' => by rw [hob] at hg'; simp at hg'; omega⟩
set_option maxRecDepth 100000 in
set_option maxHeartbeats 4000000 in
theorem next_anyB (b B B' : Nat) (s : Int) (ws : List Int) (oa : Option Addr) (cap : Nat) (nodes : List Int) (w : World) (h : Obj 139 b B w s ws) (hbB' : b < B') (hBw : B' ≤ w.heap.size) (hs : SlAt icells w (.slice oa nodes.length cap) nodes) (hn : nodes ≠ []) (hnb : ∀ g, (Value.slice oa nodes.length cap).ownBlock = some g → g ≠ b) (hl : nodes.length ≤ 900000) (hw : ws.length ≤ 900000) :
  Calls Tryz.prog 87 #[.pointer (some ⟨b, 0, none⟩), .slice oa nodes.length cap] w fun e w' => ∃ x, e = .returned (.tuple #[.int .i64 x, .bool true]) ∧ (nextL s ws nodes).2.head? = some x ∧ Obj 139 b B' w' (nextL s ws nodes).1 (nextL s ws nodes).2.tail ∧ w.grownBy w' (some b) := by
 have hb := h.lt
 have hnz : ¬ nodes.length = 0 := fun e => hn (List.eq_nil_of_length_eq_zero e)
 have hnzb : ((nodes.length : Int) == 0) = false := by simpa using hnz
 obtain ⟨v, h1, h2, _, h3⟩ := h
 have hbB := hbB'
 obtain ⟨ov, cv, rfl⟩ := slAt_slice h2
 have c1 := h1.cell1
 obtain ⟨⟨s6, l6⟩, hrs⟩ : ∃ rs, rs = nextL s ws nodes := ⟨_, rfl⟩
 have HRS := Lib.hid hrs
 have hne2 := nextL_ne s ws nodes hn
 rw [← hrs] at hne2 ⊢
 have HNE := Lib.hid hne2
 clear hne2
 have H1 := Lib.hid h1
 have H2 := Lib.hid h2
 have H3 := Lib.hid h3
 have HS := Lib.hid hs
 have hsb := hs.lt icells_len (by decide) hn
 have HSB := Lib.hid hsb
 clear hsb
 have eg : ∀ args w, (callFunc 112 args).run Tryz.prog w = .ok (.enter 112 args) w := enters_of Tryz.func112 (by kernel_rfl) rfl
 have EG := Lib.hid eg
 clear h1 h2 h3 hs eg hrs hnz hn
 go_enter Tryz.func87, Tryz.ntmps87
 go_wp2_with fail
 have hw1 : Below w.heap.size w (w.alloc (.cells #[.slice oa nodes.length cap] 50)) := (Below.refl _ _).alloc (Nat.le_refl _) _
 have hc1 : (w.alloc (.cells #[.slice oa nodes.length cap] 50)).cell? ⟨w.heap.size, 0, none⟩ = some (.slice oa nodes.length cap) := by rw [cell_of_row _ _ _ _ _ _ (heap_alloc_new w _)]; rfl
 have hsz : (w.alloc (.cells #[.slice oa nodes.length cap] 50)).heap.size = w.heap.size + 1 := by simp
 generalize w.alloc (.cells #[.slice oa nodes.length cap] 50) = w1 at *
 have H1' := Lib.hid (H1.out.keep (hw1.block b hb))
 have H2' := Lib.hid (H2.out.below icells_len (by decide) hw1 (Nat.le_refl _))
 have HS' := Lib.hid (HS.out.below icells_len (by decide) hw1 (Nat.le_refl _))
 have HW1 := Lib.hid hw1
 clear H1 H2 HS hw1
 refine (clone_any ov cv ws w1 H2'.out (by omega)).mono ?_
 rintro e w2 ⟨v2, rfl, ho2, hb2⟩
 have hc2 : w2.cell? ⟨w.heap.size, 0, none⟩ = some (.slice oa nodes.length cap) := (hb2.cell (p := ⟨w.heap.size, 0, none⟩) (by show w.heap.size < _; omega)).trans hc1
 have hc2b := hb2.block w.heap.size (by omega)
 have H1'' := Lib.hid (H1'.out.keep (hb2.block b (by omega)))
 have H2'' := Lib.hid (H2'.out.below icells_len (by decide) hb2 (Nat.le_refl _))
 have HS'' := Lib.hid (HS'.out.below icells_len (by decide) hb2 (Nat.le_refl _))
 have HB2 := Lib.hid (HW1.out.trans (hb2.mono (by omega)))
 have HO2 := Lib.hid ho2
 have hs2 : w.heap.size + 1 ≤ w2.heap.size := by have := hb2.size; omega
 clear H1' H2' HS' ho2
 have HC2 := Lib.hid hc2
 clear hc1 hc2 hc2b HW1 hb2
 go_wp2_with fail
 have hro : ∀ g, v2.ownBlock = some g → w.heap.size + 1 ≤ g := fun g hg => by have := (HO2.out.lt g hg).1; omega
 have HRO := Lib.hid hro
 clear hro
 refine (delete_cap (goneL nodes) _ _ EG.out _ v2 ws w2 (fun W hW x => pred_any w.heap.size oa cap nodes x W ((World.cell?_of_block (a := ⟨w.heap.size, 0, none⟩) (hW w.heap.size (by omega) (fun e => by have := HRO.out _ e.symm; omega))).trans HC2.out) (HS''.out.keep (.inr fun g hg => hW g (by have := HSB.out g hg; omega) (fun e => by have := HRO.out _ e.symm; have := HSB.out g hg; omega))) (by omega)) HO2.out (by omega)).mono ?_
 rintro e w3 ⟨v3, rfl, ho3, hv3, hg3⟩
 have hc3 : w3.cell? ⟨w.heap.size, 0, none⟩ = some (.slice oa nodes.length cap) := (World.cell?_of_block (a := ⟨w.heap.size, 0, none⟩) (hg3.block w.heap.size (by omega) (fun e => by have := HRO.out _ e.symm; omega))).trans HC2.out
 have h13 := H1''.out.keep (hg3.block b (by omega) (fun e => by have := HRO.out _ e.symm; omega))
 have hs3 := HS''.out.keep (.inr fun g hg => hg3.block g (by have := HSB.out g hg; omega) (fun e => by have := HRO.out _ e.symm; have := HSB.out g hg; omega))
 have hgb3 := gb_then (gb_below (World.grownBy.refl w (some b)) HB2.out (Nat.le_refl _)) hg3 fun j hj => .inl (by have := HRO.out _ hj; omega)
 have hsz3 : w.heap.size + 1 ≤ w3.heap.size := by have := hg3.size; omega
 obtain ⟨o3, c3, rfl⟩ := slAt_slice ho3.at
 have hv3B : ∀ g, (Value.slice o3 (ws.filter fun x => !goneL nodes x).length c3).ownBlock = some g → B' ≤ g := by rw [hv3]; intro g e; have := HRO.out g e; omega
 have hv3b : (Value.slice o3 (ws.filter fun x => !goneL nodes x).length c3).ownBlock ≠ some b := by rw [hv3]; intro e; have := HRO.out _ e; omega
 have hr4 := h13.set1 (.slice o3 (ws.filter fun x => !goneL nodes x).length c3)
 have hs4 := ho3.at.grown icells_len (by decide) (gb_set w3 b 1 (.slice o3 (ws.filter fun x => !goneL nodes x).length c3)) (.inr hv3b)
 have hn4 := hs3.grown icells_len (by decide) (gb_set w3 b 1 (.slice o3 (ws.filter fun x => !goneL nodes x).length c3)) (.inr (fun e => hnb _ e rfl))
 have hg4 := gb_then hgb3 (gb_set w3 b 1 (.slice o3 (ws.filter fun x => !goneL nodes x).length c3)) fun q hq => .inr hq
 have hc4 : (w3.setCell ⟨b, 1, none⟩ (.slice o3 (ws.filter fun x => !goneL nodes x).length c3)).cell? ⟨w.heap.size, 0, none⟩ = some (.slice oa nodes.length cap) := by rw [cell_set, if_neg (by omega)]; exact hc3
 have hsz4 : w.heap.size + 1 ≤ (w3.setCell ⟨b, 1, none⟩ (.slice o3 (ws.filter fun x => !goneL nodes x).length c3)).heap.size := by simpa [World.setCell] using hsz3
 have hd3 := h13.cell1
 have he3 := h13.frozen 1
 have hd4 := hr4.cell1
 have HR4 := Lib.hid hr4
 have HS4 := Lib.hid hs4
 have HN4 := Lib.hid hn4
 have HG4 := Lib.hid hg4
 have HV3 := Lib.hid hv3B
 have HRS2 := Lib.hid (show (s6, l6) = if (ws.filter fun x => !goneL nodes x) = [] then shufL s (onceL nodes) else (s, ws.filter fun x => !goneL nodes x) from HRS.out)
 clear hv3 hg3 hs3 hr4 hs4 hn4 hg4 hv3b hv3B H1'' H2'' HS'' HRO HC2 HB2 HO2 EG
 generalize (ws.filter fun x => !goneL nodes x) = wl at *
 by_cases hwl : wl = []
 ·subst hwl
  clear ho3 h13 hgb3
  have hsh : shufL s (onceL nodes) = (s6, l6) := by rw [HRS2.out, if_pos rfl]
  have HSH := Lib.hid hsh
  clear hsh
  go_wp2_with fail
  generalize w3.setCell ⟨b, 1, none⟩ (.slice o3 ([] : List Int).length c3) = w4 at *
  refine (shuffled_any b s _ oa cap nodes w4 HR4.out HN4.out (by omega)).mono ?_
  rintro e w5 ⟨v5, rfl, ho5, hr5, hg5⟩
  rw [HSH.out] at ho5 hr5
  simp only at ho5 hr5
  obtain ⟨o5, c6, rfl⟩ := slAt_slice ho5.at
  obtain ⟨g, off, rfl⟩ := ho5.at.plain icells_len (by decide) HNE.out
  have hgB : B' ≤ g := by have := (ho5.lt g rfl).1; omega
  have hg6b : g ≠ b := by omega
  have hgw5 := gb_then HG4.out hg5 fun q hq => .inr hq
  have hs5 := ho5.at
  have hl6 : l6 ≠ [] := HNE.out
  clear ho5 hg5 hd3 he3 hd4 HR4 HS4 HN4 HG4 hc4 HNE HRS HRS2 HSH
  -- w5: the world ahead of the store of what waits
  obtain ⟨x, hx⟩ : ∃ x, x = l6.head hl6 := ⟨_, rfl⟩
  have hlp : 0 < l6.length := List.length_pos_iff.2 hl6
  have hx0 : l6.head? = some x := by rw [hx]; exact List.head?_eq_some_head hl6
  have HX0 := Lib.hid hx0
  have hcc : w5.cell? ⟨g, off, none⟩ = some (.int .i64 x) := by
   have := hs5.cell icells_len (i := 0) (c := 0) hlp (by decide)
   have hx1 : l6[0]'hlp = x := by rw [hx, List.head_eq_getElem]
   simpa [icells, hx1] using this
  have hcl : l6.length ≤ c6 := by
   obtain ⟨oq, cq, hv6, hcap6⟩ := hs5.slice_of
   simp only [Value.slice.injEq] at hv6
   omega
  have h1l : 1 ≤ l6.length := hlp
  have h1c : 1 ≤ c6 := by omega
  have hnl : ¬ l6.length = 0 := by omega
  have hs6 := hs5.grown icells_len (by decide) (gb_set w5 b 1 (.slice (some ⟨g, off, none⟩) l6.length c6)) (.inr (by simpa [Value.ownBlock] using hg6b))
  have hr6 := hr5.set1 (.slice (some ⟨g, off, none⟩) l6.length c6)
  have hgw6 := gb_then hgw5 (gb_set w5 b 1 (.slice (some ⟨g, off, none⟩) l6.length c6)) fun q hq => .inr hq
  have hd5 := hr5.cell1
  have he5 := hr5.frozen 1
  have hd6 := hr6.cell1
  have he6 := hr6.frozen 1
  have hpop := Obj.pop hr6 hs6 hbB hgB h1l
  have HPOP := Lib.hid hpop
  have HG7 := Lib.hid (gb_then hgw6 (gb_set (w5.setCell ⟨b, 1, none⟩ (.slice (some ⟨g, off, none⟩) l6.length c6)) b 1 (sliced (some ⟨g, off, none⟩) 1 l6.length c6 1)) fun q hq => .inr hq)
  clear hx hx0 hpop hr6 hs6 hgw6 hr5 hs5 hgw5
  by_cases hc6 : c6 = 1
  ·subst hc6
   have hsl : sliced (some ⟨g, off, none⟩) 1 l6.length 1 1 = .slice (some ⟨g, off, none⟩) 0 0 := by unfold sliced; rw [if_pos rfl, show l6.length - 1 = 0 by omega]
   rw [hsl] at HPOP HG7
   clear hsl
   go_wp2_with fail
   go_ret2
   exact ⟨x, rfl, HX0.out, HPOP.out, HG7.out⟩
  ·have hsl : sliced (some ⟨g, off, none⟩) 1 l6.length c6 1 = .slice (some ⟨g, off + 1, none⟩) (l6.length - 1) (c6 - 1) := by unfold sliced; rw [if_neg hc6]; rfl
   rw [hsl] at HPOP HG7
   clear hsl
   go_wp2_with fail
   go_ret2
   exact ⟨x, rfl, HX0.out, HPOP.out, HG7.out⟩
 ·have hsh : (s6, l6) = (s, wl) := by rw [HRS2.out, if_neg hwl]
  simp only [Prod.mk.injEq] at hsh
  obtain ⟨rfl, rfl⟩ := hsh
  obtain ⟨g, off, hgo⟩ := ho3.at.plain icells_len (by decide) hwl
  subst hgo
  have hgB : B' ≤ g := HV3.out g rfl
  have hg6b : g ≠ b := by omega
  have hnl0 : ¬ l6.length = 0 := fun e => hwl (List.eq_nil_of_length_eq_zero e)
  have hnlb : ((l6.length : Int) == 0) = false := by simpa using hnl0
  have hl6 := hwl
  have hs5 := ho3.at
  have hr5 := h13
  have hgw5 := hgb3
  clear ho3 h13 hgb3 HR4 HS4 HN4 HG4 hc4 HNE HRS HRS2 hwl hd3 he3 hd4
  generalize c3 = c6 at *
  generalize w3 = w5 at *
  -- w5: the world ahead of the store of what waits
  obtain ⟨x, hx⟩ : ∃ x, x = l6.head hl6 := ⟨_, rfl⟩
  have hlp : 0 < l6.length := List.length_pos_iff.2 hl6
  have hx0 : l6.head? = some x := by rw [hx]; exact List.head?_eq_some_head hl6
  have HX0 := Lib.hid hx0
  have hcc : w5.cell? ⟨g, off, none⟩ = some (.int .i64 x) := by
   have := hs5.cell icells_len (i := 0) (c := 0) hlp (by decide)
   have hx1 : l6[0]'hlp = x := by rw [hx, List.head_eq_getElem]
   simpa [icells, hx1] using this
  have hcl : l6.length ≤ c6 := by
   obtain ⟨oq, cq, hv6, hcap6⟩ := hs5.slice_of
   simp only [Value.slice.injEq] at hv6
   omega
  have h1l : 1 ≤ l6.length := hlp
  have h1c : 1 ≤ c6 := by omega
  have hnl : ¬ l6.length = 0 := by omega
  have hs6 := hs5.grown icells_len (by decide) (gb_set w5 b 1 (.slice (some ⟨g, off, none⟩) l6.length c6)) (.inr (by simpa [Value.ownBlock] using hg6b))
  have hr6 := hr5.set1 (.slice (some ⟨g, off, none⟩) l6.length c6)
  have hgw6 := gb_then hgw5 (gb_set w5 b 1 (.slice (some ⟨g, off, none⟩) l6.length c6)) fun q hq => .inr hq
  have hd5 := hr5.cell1
  have he5 := hr5.frozen 1
  have hd6 := hr6.cell1
  have he6 := hr6.frozen 1
  have hpop := Obj.pop hr6 hs6 hbB hgB h1l
  have HPOP := Lib.hid hpop
  have HG7 := Lib.hid (gb_then hgw6 (gb_set (w5.setCell ⟨b, 1, none⟩ (.slice (some ⟨g, off, none⟩) l6.length c6)) b 1 (sliced (some ⟨g, off, none⟩) 1 l6.length c6 1)) fun q hq => .inr hq)
  clear hx hx0 hpop hr6 hs6 hgw6 hr5 hs5 hgw5
  by_cases hc6 : c6 = 1
  ·subst hc6
   have hsl : sliced (some ⟨g, off, none⟩) 1 l6.length 1 1 = .slice (some ⟨g, off, none⟩) 0 0 := by unfold sliced; rw [if_pos rfl, show l6.length - 1 = 0 by omega]
   rw [hsl] at HPOP HG7
   clear hsl
   go_wp2_with fail
   go_ret2
   exact ⟨x, rfl, HX0.out, HPOP.out, HG7.out⟩
  ·have hsl : sliced (some ⟨g, off, none⟩) 1 l6.length c6 1 = .slice (some ⟨g, off + 1, none⟩) (l6.length - 1) (c6 - 1) := by unfold sliced; rw [if_neg hc6]; rfl
   rw [hsl] at HPOP HG7
   clear hsl
   go_wp2_with fail
   go_ret2
   exact ⟨x, rfl, HX0.out, HPOP.out, HG7.out⟩
def someL (s : Int) (nodes : List Int) (n : Int) : List Int := (shufL s (onceL nodes)).2.take n.toNat
theorem someL_is (s : Int) (nodes : List Int) (n : Int) (k : Nat) (hk : (if ((shufL s (onceL nodes)).2.length : Int) < n then ((shufL s (onceL nodes)).2.length : Int) else if n < 0 then 0 else n) = (k : Int)) : k ≤ (shufL s (onceL nodes)).2.length ∧ someL s nodes n = (shufL s (onceL nodes)).2.take k := by
 unfold someL
 generalize (shufL s (onceL nodes)).2 = l at *
 split at hk
 ·have : k = l.length := by omega
  subst this
  exact ⟨Nat.le_refl _, by rw [List.take_length, List.take_of_length_le (by omega)]⟩
 ·split at hk
  ·have : k = 0 := by omega
   subst this
   exact ⟨Nat.zero_le _, by rw [show n.toNat = 0 by omega]⟩
  ·exact ⟨by omega, by rw [show n.toNat = k by omega]⟩
end Go.Proofs.YtejihgfigclppaaGreat
