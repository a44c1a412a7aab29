/-
  Rows of ints of the call's own, through the library's Clone, DeleteFunc, Sort, Compact and SortStableFunc: what each leaves, nil too.
  decide.Stable: a number that isn't lowered below what was wished of late.
-/
import Derived.Test.YtjgbflclhkeibaaGreatMRd
import Derived.Test.YtjgbflclhkeibaaGreatLay
import Derived.Test.YtjgbflclhkeibaaGreatMWorksP
import Derived.Sort.OwnSortedInts
import Derived.Shelf.Sort.Plain
import Derived.Shelf.Slices.CompactI
import Derived.Shelf.Slices.In.SortNone
import Derived.Shelf.Slices.Clone
import Derived.Shelf.SlicesE.DeleteFunc
import Derived.Shelf.SlSortCmp.Insertion1
import Derived.Test.YtjgbflclhkeibaaGreatDStep
namespace Go.Proofs.YtjgbflclhkeibaaGreat
open Go.Shelf Go.RowKit Go.Lib Go.Sort
set_option linter.unusedVariables false
def icells (v : Int) : List Value := [.int .i64 v]
theorem icells_len (v : Int) : (icells v).length = 1 := rfl
theorem icells_one : ∀ (v : Int), ∀ u ∈ icells v, u.oneCell' = true := fun v u hu => by
  obtain rfl : u = .int .i64 v := by simpa [icells] using hu
  rfl
theorem infoInt : (Tryz.prog.info? 3).map (fun i => (i.zero, i.size, i.bytes)) = some (some (.int .i64 0), 1, 8) := by kernel_rfl
theorem icells_flat : ∀ l : List Int, l.flatMap icells = l.map (Value.int .i64)
  | [] => rfl
  | a :: l => by rw [List.flatMap_cons, List.map_cons, icells_flat l]; rfl
abbrev Ints (B : Nat) (w : World) (v : Value) (l : List Int) : Prop := Owns icells 1 B 3 w v l
/-- its cells, as the library's laws ask for them -/
theorem Ints.parts {w : World} {B : Nat} {v : Value} {l : List Int} (h : Ints B w v l) (hl : l ≠ []) : ∃ g cap, v = .slice (some ⟨g, 0, none⟩) l.length cap ∧ B ≤ g ∧ g < w.heap.size ∧ l.length ≤ cap ∧ Holds (Value.int .i64) w g 0 l.toArray ∧
    ∀ (n : Nat) (os : Array Obj) (ts : List Int), ts.length = l.length → Ints B (grow (putRow (Value.int .i64) (Sort.ahead w n) g 0 ts.toArray) os) (.slice (some ⟨g, 0, none⟩) ts.length cap) ts := by
  rcases h.2 with ⟨hv, hn⟩ | ⟨g, cap, cur, hv, hbg, hgg, hnc, hcm, hcs, htk⟩
  · exact absurd (List.eq_nil_of_length_eq_zero hn) hl
  · refine ⟨g, cap, hv, hbg, (Array.getElem?_eq_some_iff.1 hgg).1, hnc, holds_of_blockI hgg (by rw [← icells_flat, ← htk, Nat.mul_one]), fun n os ts hts => ?_⟩
    have := ownsRow_sortedI (n := n) (os := os) (ss := l) (ts := ts) hts hbg hgg hnc hcm hcs
    unfold Ints Owns
    rw [icells_flat, hts]
    exact this
/-- a slice that reads as ints: cloned -/
theorem clone_any (oa : Option Addr) (cap : Nat) (l : List Int) (w : World) (h : SlAt icells w (.slice oa l.length cap) l) (hl : l.length ≤ 1000000) :
    Calls Tryz.prog 36 #[.slice oa l.length cap] w fun e w' => ∃ v', e = .returned v' ∧ Ints w.heap.size w' v' l ∧ Below w.heap.size w w' := by
  cases oa with
  | none =>
    have hl0 : l = [] := by
      obtain ⟨oa', cap', hv, hcp, hn, _⟩ := h
      simp only [Value.slice.injEq] at hv
      have := hn hv.1.symm
      exact List.eq_nil_of_length_eq_zero (by omega)
    subst hl0
    refine (Any.slices_Clone_int_nil laysLays215 0 cap w).mono ?_
    rintro e w' ⟨rfl, rfl⟩
    exact ⟨_, rfl, Owns.nil _ _ _ _ _, Below.refl _ _⟩
  | some a =>
    cases l with
    | nil =>
      refine (Any.slices_Clone_int_zero laysLays215 a cap w).mono ?_
      rintro e w' ⟨v', rfl, ho, _, hb⟩
      exact ⟨v', rfl, ho, hb⟩
    | cons x xs =>
      obtain ⟨b, off, hab⟩ := h.plain icells_len (by decide) (by simp)
      simp only [Option.some.injEq] at hab
      subst hab
      refine (Any.slices_Clone_int laysLays215 b off (x :: xs).length cap (x :: xs) w (Nat.le_refl _) (by omega) (fun j hj => ?_)).mono ?_
      · have := h.cell icells_len (i := j) (c := 0) hj (by decide)
        rw [Nat.mul_one, Nat.add_zero] at this
        rw [this]
        simp [icells, List.getD, List.getElem?_eq_getElem hj]
      · rintro e w' ⟨v', rfl, ho, _, hb⟩
        rw [List.take_length] at ho
        refine ⟨v', rfl, ?_, hb⟩
        unfold Ints Owns
        rw [icells_flat]
        exact ho
theorem sort_any (B : Nat) (v : Value) (l : List Int) (w : World) (h : Ints B w v l) (hl : l.length ≤ 1000000) :
    Calls Tryz.prog 73 #[v] w fun e w' => e = .returned (.tuple #[]) ∧ Ints B w' v (l.mergeSort fun x y => decide (x ≤ y)) ∧ w.grownBy w' v.ownBlock := by
  cases l with
  | nil =>
    obtain ⟨oa, cap, rfl⟩ := slAt_slice h.at
    refine (Any.slices_Sort_int_none laysLays189 oa cap w).mono ?_
    rintro e w' ⟨rfl, rfl⟩
    exact ⟨rfl, by simpa using h, World.grownBy.refl _ _⟩
  | cons x xs =>
    obtain ⟨g, cap, rfl, hB, hg, hc, hH, hO⟩ := h.parts (by simp)
    refine (Any.slices_Sort_int laysLays189 g 0 cap (x :: xs) w hH hg (by omega)).mono ?_
    rintro e w' ⟨rfl, n, os, rfl⟩
    have hml : ((x :: xs).mergeSort fun x y => decide (x ≤ y)).length = (x :: xs).length := List.length_mergeSort _
    have := hO n os _ hml
    rw [hml] at this
    exact ⟨rfl, this, grownBy_sortedI _⟩
theorem compact_len (zs : List Int) : (Lib.compact zs).length ≤ zs.length := by
  unfold Lib.compact compactUpTo
  rw [List.length_map]
  have := List.length_filter_le (keeps zs.toArray) (List.range zs.length)
  simpa using this
theorem compact_any (B : Nat) (v : Value) (l : List Int) (w : World) (h : Ints B w v l) (hl : l.length ≤ 1000000) :
    Calls Tryz.prog 74 #[v] w fun e w' => ∃ v', e = .returned v' ∧ Ints B w' v' (Lib.compact l) ∧ v'.ownBlock = v.ownBlock ∧ w.grownBy w' v.ownBlock := by
  cases l with
  | nil =>
    obtain ⟨oa, cap, rfl⟩ := slAt_slice h.at
    refine (Any.slices_Compact_int_empty laysLays220 oa cap w).mono ?_
    rintro e w' ⟨rfl, rfl⟩
    exact ⟨_, rfl, h, rfl, World.grownBy.refl _ _⟩
  | cons x xs =>
    obtain ⟨g, cap, rfl, hB, hg, hc, hH, hO⟩ := h.parts (by simp)
    have hcl := compact_len (x :: xs)
    refine (Any.slices_Compact_int laysLays220 g 0 cap (x :: xs) w hH (by omega) hc).mono ?_
    rintro e w' ⟨rfl, q, rfl⟩
    have hts : (Lib.compact (x :: xs) ++ List.replicate ((x :: xs).length - (Lib.compact (x :: xs)).length) 0).length = (x :: xs).length := by simp only [List.length_append, List.length_replicate]; omega
    have ho := hO q #[] _ hts
    have hg2 := grownBy_sortedI (w := w) (g := g) (n := q) (os := #[]) (Lib.compact (x :: xs) ++ List.replicate ((x :: xs).length - (Lib.compact (x :: xs)).length) 0).toArray
    rw [grow_empty] at ho hg2
    have ht := ho.take icells_len (Lib.compact (x :: xs)).length (by rw [List.length_append]; omega)
    rw [List.take_left' rfl] at ht
    exact ⟨_, rfl, ht, rfl, hg2⟩
/-- what DeleteFunc leaves of ints: those that the function value spares -/
theorem delete_any (p : Int → Bool) (g0 : Nat) (eg : ∀ args w, (callFunc g0 args).run Tryz.prog w = .ok (.enter g0 args) w) (hp : ∀ (W : World) (x : Int), FnGives Tryz.prog g0 #[] #[.int .i64 x] (.bool (p x)) W)
    (B : Nat) (v : Value) (l : List Int) (w : World) (h : Ints B w v l) (hl : l.length ≤ 1000000) :
    Calls Tryz.prog 71 #[v, .func (.func g0) #[] #[]] w fun e w' => ∃ v', e = .returned v' ∧ Ints B w' v' (l.filter fun x => !p x) ∧ v'.ownBlock = v.ownBlock ∧ w.grownBy w' v.ownBlock := by
  cases l with
  | nil =>
    obtain ⟨oa, cap, rfl⟩ := slAt_slice h.at
    have hi := AnyE.slices_IndexFunc_empty (P := Tryz.prog) (ρ := laysSlLaysH10_ren) { laysSlLaysH10 with } oa cap (.func (.func g0) #[] #[]) w
    have HI := Lib.hid hi
    have HX := Lib.hid h
    clear hi h hp eg
    simp only [List.length_nil]
    go_enter Tryz.func71, Tryz.ntmps71
    go_wp2_with fail
    refine HI.out.mono ?_
    rintro e w' ⟨rfl, rfl⟩
    go_wp2_with fail
    go_ret
    exact ⟨_, rfl, HX.out, rfl, World.grownBy.refl _ _⟩
  | cons x xs =>
    obtain ⟨g, cap, rfl, hB, hg, hc, hH, hO⟩ := h.parts (by simp)
    refine (AnyE.slices_DeleteFunc (P := Tryz.prog) (ρ := laysSlLaysH10_ren) laysSlLaysH10 (Value.int .i64) (fun _ => rfl) p g0 #[] eg 0 (fun w => Tryz.zeroValue3 w) g 0 cap (x :: xs).toArray w (fun W y _ => hp W y) (fun n os dk y _ => hp _ y) hH (by rw [List.size_toArray]; omega) (by simpa using hc)).mono ?_
    rintro e w' ⟨rfl, q, rfl⟩
    have hfl := List.length_filter_le (fun x => !p x) (x :: xs)
    have hts : (((x :: xs).filter fun x => !p x) ++ List.replicate ((x :: xs).toArray.size - ((x :: xs).filter fun x => !p x).length) 0).length = (x :: xs).length := by simp only [List.length_append, List.length_replicate, List.size_toArray]; omega
    have ho := hO q #[] _ hts
    have hg2 := grownBy_sortedI (w := w) (g := g) (n := q) (os := #[]) (((x :: xs).filter fun x => !p x) ++ List.replicate ((x :: xs).toArray.size - ((x :: xs).filter fun x => !p x).length) 0).toArray
    rw [grow_empty] at ho hg2
    have ht := ho.take icells_len ((x :: xs).filter fun x => !p x).length (by rw [List.length_append]; omega)
    rw [List.take_left' rfl] at ht
    exact ⟨_, rfl, ht, rfl, hg2⟩

/-- compact of what is sorted of what is spared: the nodes that there may be -/
theorem base_there (p : Int → Bool) (hp : ∀ x, p x = false ↔ 0 ≤ x ∧ x < 8) (l : List Int) : Lib.compact ((l.filter fun x => !p x).mergeSort fun x y => decide (x ≤ y)) = there l := by
  have hs : ((l.filter fun x => !p x).mergeSort fun x y => decide (x ≤ y)).Pairwise fun a b => decide (a ≤ b) = true := List.pairwise_mergeSort (fun a b c h1 h2 => by simp only [decide_eq_true_eq] at *; omega) (fun a b => by simp only [Bool.or_eq_true, decide_eq_true_eq]; omega) _
  have hm : ∀ x, x ∈ ((l.filter fun x => !p x).mergeSort fun x y => decide (x ≤ y)) ↔ x ∈ (l.filter fun x => !p x) := fun x => List.mem_mergeSort
  generalize ((l.filter fun x => !p x).mergeSort fun x y => decide (x ≤ y)) = zs at hs hm
  obtain ⟨h1, h2⟩ := compact_rises zs.toArray (fun i j hij hj => by
    have hj' : j < zs.length := by simpa using hj
    rcases Nat.lt_or_eq_of_le hij with h | rfl
    · have := List.pairwise_iff_getElem.1 hs i j (by omega) hj' h
      simpa [getElem!_pos, show i < zs.length by omega, hj'] using this
    · exact Int.le_refl _) zs.length (by simp)
  refine rises_eq h1 (there_rises l) fun x => (h2 x).trans ?_
  rw [mem_there]
  constructor
  · rintro ⟨j, hj, hx⟩
    have hx' : x ∈ zs := by
      rw [← hx]
      simp only [hj, List.size_toArray, getElem!_pos, List.getElem_toArray]
      exact List.getElem_mem hj
    obtain ⟨ha, hb⟩ := List.mem_filter.1 ((hm x).1 hx')
    obtain ⟨h3, h4⟩ := (hp x).1 (by simpa using hb)
    exact ⟨h3, h4, ha⟩
  · rintro ⟨h3, h4, ha⟩
    have hx : x ∈ zs := (hm x).2 (List.mem_filter.2 ⟨ha, by rw [(hp x).2 ⟨h3, h4⟩]; rfl⟩)
    obtain ⟨j, hj, hx⟩ := List.mem_iff_getElem.1 hx
    exact ⟨j, hj, by simpa [getElem!_pos, hj] using hx⟩

theorem insNone_any (oa : Option Addr) (cap : Nat) (fv : Value) (w : World) : Calls Tryz.prog 116 #[.slice oa 0 cap, .int .i64 0, .int .i64 0, fv] w fun e w' => e = .returned (.tuple #[]) ∧ w = w' := by
  go_enter Tryz.func116, Tryz.ntmps116
  go_wp2
  go_rounds 1
  go_end0
  exact ⟨rfl, rfl⟩
/-- what a function value that compares ints gives, in whatever world that kept what lay aside of the row -/
def Compares (g : Nat) (cb : Array Value) (cf : Int → Int → Int) (row : Option Nat) (w : World) : Prop :=
  ∀ (W : World), (∀ k, k < w.heap.size → some k ≠ row → W.heap[k]? = w.heap[k]?) → w.heap.size ≤ W.heap.size → ∀ x y : Int, Calls Tryz.prog g (#[.int .i64 x, .int .i64 y] ++ cb) W fun e w' => e = .returned (.int .i64 (cf x y)) ∧ Onto W w'
theorem ins_any (cf : Int → Int → Int) (hO : SWO (ltOf cf)) (g : Nat) (cb : Array Value) (eg : ∀ args w, (callFunc g args).run Tryz.prog w = .ok (.enter g args) w)
    (B : Nat) (v : Value) (l : List Int) (w : World) (hcmp : Compares g cb cf v.ownBlock w) (h : Ints B w v l) (hl : l.length ≤ 1000000) :
    Calls Tryz.prog 116 #[v, .int .i64 0, .int .i64 l.length, .func (.func g) #[] cb] w fun e w' => e = .returned (.tuple #[]) ∧ ∃ l', stableOf (ltOf cf) l l' ∧ l'.length = l.length ∧ Ints B w' v l' ∧ w.grownBy w' v.ownBlock := by
  cases l with
  | nil =>
    obtain ⟨oa, cap, rfl⟩ := slAt_slice h.at
    refine (insNone_any oa cap _ w).mono ?_
    rintro e w' ⟨rfl, rfl⟩
    exact ⟨rfl, [], ⟨List.Pairwise.nil, StabL.refl _ _⟩, rfl, h, World.grownBy.refl _ _⟩
  | cons x xs =>
    obtain ⟨b, cap, rfl, hB, hg, hc, hH, hOw⟩ := h.parts (by simp)
    have hlays : CmpLays1 Tryz.prog g cb (Value.int .i64) cf b 0 (x :: xs).toArray.size w := fun m os dk hs y z => by
      refine (hcmp (sortWorld (Value.int .i64) w b 0 m dk os) (fun k hk hne => ?_) ?_ y z).mono ?_
      · unfold sortWorld
        rw [heap_grow_old _ _ (by rw [size_putRow]; exact hk)]
        have : b ≠ k := fun e => hne (by rw [← e]; rfl)
        simp [putRow, mapBlock, Sort.ahead, Array.getElem?_modify, this]
      · unfold sortWorld
        rw [size_grow, size_putRow]
        simp
      · rintro e w' ⟨rfl, ho⟩
        exact ⟨rfl, ho.grew⟩
    have hi := Any.insertionSortCmpFunc_s (P := Tryz.prog) (ρ := laysSlLaysF20_ren) laysSlLaysF20 (Value.int .i64) cf g cb b 0 cap 0 (x :: xs).toArray.size (x :: xs).toArray (x :: xs).toArray w w eg hlays ⟨fun _ => rfl, hH, hg⟩ rfl (SW.start hH) (Nat.zero_le _) (Nat.le_refl _) (by rw [List.size_toArray]; omega)
    rw [List.size_toArray] at hi
    have hst := insertion_stable hO (x :: xs).toArray
    rw [List.size_toArray] at hst
    have hsz : (Sort.insertionSort (ltOf cf) (x :: xs).toArray 0 (x :: xs).length).size = (x :: xs).length := by
      have := (insOuter_stab hO 0 (x :: xs).length (x :: xs).length (0 + 1) (x :: xs).toArray (by omega) (by simp)).2
      rw [List.size_toArray] at this
      exact this
    generalize Sort.insertionSort (ltOf cf) (x :: xs).toArray 0 (x :: xs).length = r at hi hst hsz
    refine hi.mono ?_
    rintro e w' ⟨rfl, n, os, rfl⟩
    have hrl : r.toList.length = (x :: xs).length := by rw [Array.length_toList, hsz]
    refine ⟨rfl, r.toList, hst, hrl, ?_, ?_⟩
    · have := hOw n os r.toList hrl
      rw [hrl, Array.toArray_toList] at this
      exact this
    · exact grownBy_sortedI _
end Go.Proofs.YtjgbflclhkeibaaGreat
namespace Go.Proofs.YtjgbflclhkeibaaGreat
open Go.Shelf Go.RowKit Go.Lib Go.Sort
set_option linter.unusedVariables false
def stableI (recent : List Int) (want now : Int) : Int := if now ≤ want then want else min (recent.foldl max want) now
theorem foldl_max_ge (l : List Int) : ∀ a : Int, a ≤ l.foldl max a ∧ ∀ x ∈ l, x ≤ l.foldl max a := by
  induction l with
  | nil => intro a; exact ⟨Int.le_refl _, fun x hx => nomatch hx⟩
  | cons y l ih =>
    intro a
    obtain ⟨h1, h2⟩ := ih (max a y)
    rw [List.foldl_cons]
    refine ⟨by omega, fun x hx => ?_⟩
    rcases List.mem_cons.1 hx with rfl | hx
    · omega
    · exact h2 x hx
theorem owns_lit (W : World) (cs : Array Value) (e : Nat) (l : List Int) (hc : cs.toList = l.flatMap icells) (hl : l.length ≤ 1000000) : Owns icells 1 W.heap.size e (W.alloc (.cells cs e)) (.slice (some ⟨W.heap.size, 0, none⟩) l.length l.length) l := by
  have hs : cs.size = l.length := by rw [← Array.length_toList, hc, icells_flat, List.length_map]
  refine ⟨by rw [icells_flat, List.length_map, Nat.mul_one], .inr ⟨_, _, cs, rfl, Nat.le_refl _, heap_alloc_new W _, Nat.le_refl _, by unfold maxLen; omega, by rw [hs, Nat.mul_one], ?_⟩⟩
  rw [hc, List.take_of_length_le (by rw [icells_flat, List.length_map, Nat.mul_one]; exact Nat.le_refl _)]
set_option maxHeartbeats 2000000 in
theorem slMax_any (oa : Option Addr) (cap : Nat) (x : Int) (l : List Int) (w : World) (h : SlAt icells w (.slice oa (x :: l).length cap) (x :: l)) (hl : l.length ≤ 1000000) :
    Calls Tryz.prog 66 #[.slice oa (x :: l).length cap] w fun e w' => e = .returned (.int .i64 (l.foldl max x)) ∧ w' = w := by
  obtain ⟨b, off, rfl⟩ := h.plain icells_len (by decide) (by simp)
  have hx : w.cell? ⟨b, off, none⟩ = some (.int .i64 x) := by
    have := h.cell icells_len (i := 0) (c := 0) (by simp) (by decide)
    simpa [icells] using this
  have hc : ∀ i (hi : i < l.length), w.cell? ⟨b, off + (i + 1), none⟩ = some (.int .i64 (l[i]'hi)) := fun i hi => by
    have := h.cell icells_len (i := i + 1) (c := 0) (by simp; omega) (by decide)
    simpa [icells] using this
  have HC := Lib.hid hc
  rw [show (x :: l).length = l.length + 1 from rfl]
  have h1 : ¬ ((l.length : Int) + 1 < 1) := by omega
  clear hc h
  go_enter Tryz.func66, Tryz.ntmps66
  go_wp2_with fail
  go_loopg [3, 4] l.length (fun gk s3 s4 wr => ∃ (i q : Nat), s4 = .int .i64 (i + 1 : Nat) ∧ s3 = .int .i64 ((l.take i).foldl max x) ∧ i ≤ l.length ∧ l.length - i ≤ gk ∧ wr = w)
  case atStart => exact ⟨0, 0, rfl, rfl, Nat.zero_le _, Nat.le_refl _, rfl⟩
  case round =>
    obtain ⟨i, q, rfl, rfl, hi, hg, hwr⟩ := hrel
    subst hwr
    by_cases hlt : i < l.length
    · have hltz : ((i : Int) + 1 < (l.length : Int) + 1) := by omega
      have c1 := HC.out i hlt
      have hs : (l.take (i + 1)).foldl max x = max ((l.take i).foldl max x) (l[i]'hlt) := by rw [List.take_succ_eq_append_getElem hlt, List.foldl_append]; rfl
      have HS := Lib.hid hs
      clear hs
      generalize l[i]'hlt = y at *
      generalize (l.take i).foldl max x = m at *
      go_wp2_with fail
      go_roundg (l.length - (i + 1))
      case measure => omega
      case rel => exact ⟨i + 1, q, by go_num, by rw [HS.out], by omega, Nat.le_refl _, rfl⟩
    · obtain rfl : i = l.length := by omega
      have hltz : ¬ ((l.length : Int) + 1 < (l.length : Int) + 1) := by omega
      rw [List.take_length]
      go_wp2_with fail
      go_ret
      exact ⟨rfl, rfl⟩
set_option maxRecDepth 100000 in
set_option maxHeartbeats 2000000 in
theorem decStable_any (oa : Option Addr) (cap : Nat) (l : List Int) (want now : Int) (w : World) (h : SlAt icells w (.slice oa l.length cap) l) (hl : l.length ≤ 1000000) :
    Calls Tryz.prog 46 #[.slice oa l.length cap, .int .i64 want, .int .i64 now] w fun e w' => e = .returned (.int .i64 (stableI l want now)) ∧ Below w.heap.size w w' := by
  unfold stableI
  by_cases hw : now ≤ want
  · rw [if_pos hw]
    go_enter Tryz.func46, Tryz.ntmps46
    go_wp2_with fail
    go_ret
    exact ⟨rfl, Below.refl _ _⟩
  · rw [if_neg hw]
    have HE := Lib.hid h
    clear h
    have hw2 : want < now := by omega
    obtain ⟨mx, hmx⟩ : ∃ m, l.foldl max want = m := ⟨_, rfl⟩
    rw [hmx]
    have HMX := Lib.hid hmx
    clear hmx
    go_enter Tryz.func46, Tryz.ntmps46
    go_wp2_with (at_builtin; go_loud (refine wpList_appD icells 1 icells_len (by decide) icells_one _ rfl _ _ 37 rfl w.heap.size 3 _ 8 Tryz.underlying37 infoInt rfl _ [want] rfl ?h1 _ l rfl ?h2 ?h3 ?h4 ?h5 ?_))
    case h1 => exact owns_lit w #[.int .i64 want] 3 [want] rfl (by simp)
    case h2 => exact HE.out.below icells_len (by decide) ((Below.refl _ _).alloc (Nat.le_refl _) _) (Nat.le_refl _)
    case h3 => show (1 + l.length) * 8 ≤ _; omega
    case h4 => show 1 + l.length ≤ _; omega
    intro v9 w5 h9 hg9 hv9 hd9
    obtain ⟨o9, c9, rfl⟩ := slAt_slice h9.at
    have hm := slMax_any o9 c9 want l w5 (by simpa using h9.at) hl
    rw [HMX.out] at hm
    have HM := Lib.hid hm
    have hb5 : Below w.heap.size w w5 := ((Below.refl _ _).alloc (Nat.le_refl _) _).grown hg9 (by simp) fun k hk => by simp [Value.ownBlock] at hk; omega
    have HB5 := Lib.hid hb5
    generalize (want :: l).length = n9 at *
    clear hm hb5 h9 hg9 hv9 hd9
    go_wp2_with fail
    refine HM.out.mono ?_
    rintro e w6 ⟨rfl, rfl⟩
    go_wp2_with fail
    go_ret
    exact ⟨rfl, HB5.out⟩
end Go.Proofs.YtjgbflclhkeibaaGreat
