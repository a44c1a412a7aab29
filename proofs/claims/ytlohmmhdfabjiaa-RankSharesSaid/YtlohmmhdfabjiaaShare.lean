/-
  Both Shares: which of the workloads each of the nodes owns: eight rows of ints.
-/
import Derived.Test.YtlohmmhdfabjiaaOwner
namespace Go.Proofs.Ytlohmmhdfabjiaa
open Go.Shelf Go.RowKit Go.Lib Go.Sort
set_option linter.unusedVariables false
/-- the order, as a function -/
def rk (nodes : List Int) (work salt : Int) : List Int := (Sort.insertionSort (heavier fun n => weightI n work salt) (there nodes).toArray 0 (there nodes).length).toList
theorem rk_ranks (nodes : List Int) (work salt : Int) : Ranks (fun n => weightI n work salt) nodes (rk nodes work salt) := by
  have h := insertion_stable (swo_heavier fun n => weightI n work salt) (there nodes).toArray
  rw [List.size_toArray] at h
  exact ⟨h⟩
/-- the workloads below a number that a node owns -/
def shareTo (nodes : List Int) (salt : Int) (n k : Nat) : List Int := ((List.range k).map Int.ofNat).filter fun w => decide (own (rk nodes w salt) = ((n : Int), 0))
theorem shareTo_succ (nodes : List Int) (salt : Int) (n k : Nat) : shareTo nodes salt n (k + 1) = shareTo nodes salt n k ++ (if own (rk nodes k salt) = ((n : Int), 0) then [(k : Int)] else []) := by
  unfold shareTo
  rw [List.range_succ, List.map_append, List.filter_append]
  congr 1
  simp only [List.map_cons, List.map_nil, List.filter_cons, List.filter_nil]
  by_cases h : own (rk nodes k salt) = ((n : Int), 0)
  · simp [h]
  · simp [h]
theorem shareTo_len (nodes : List Int) (salt : Int) (n k : Nat) : (shareTo nodes salt n k).length ≤ k := by
  have := List.length_filter_le (fun w => decide (own (rk nodes w salt) = ((n : Int), 0))) ((List.range k).map Int.ofNat)
  simpa [shareTo] using this
theorem own_range {wt : Int → Int} {nodes l : List Int} (h : Ranks wt nodes l) {x e : Int} (ho : own l = (x, e)) : (e = 0 ∧ ∃ n : Nat, x = (n : Int) ∧ n < 8) ∨ e = 8 := by
  cases l with
  | nil =>
    simp only [own, Prod.mk.injEq] at ho
    exact .inr ho.2.symm
  | cons y l =>
    simp only [own, Prod.mk.injEq] at ho
    obtain ⟨rfl, rfl⟩ := ho
    obtain ⟨h0, h1, _⟩ := (h.mem y).1 (by simp)
    obtain ⟨n, rfl⟩ := Int.eq_ofNat_of_zero_le h0
    exact .inl ⟨rfl, n, rfl, by omega⟩

def eight (vs : Nat → Value) : Array Value := #[vs 0, vs 1, vs 2, vs 3, vs 4, vs 5, vs 6, vs 7]
theorem eight_at (vs : Nat → Value) (n : Nat) (hn : n < 8) : (eight vs)[n]? = some (vs n) := by
  have : n = 0 ∨ n = 1 ∨ n = 2 ∨ n = 3 ∨ n = 4 ∨ n = 5 ∨ n = 6 ∨ n = 7 := by omega
  rcases this with rfl | rfl | rfl | rfl | rfl | rfl | rfl | rfl <;> rfl
/-- eight rows of the call's own, each in memory of its own -/
structure Rows8 (B b : Nat) (W : World) (vs : Nat → Value) (f : Nat → List Int) : Prop where
  heap : W.heap[b]? = some (.cells (eight vs) 39)
  row : ∀ n, n < 8 → Ints B W (vs n) (f n) ∧ (vs n).ownBlock ≠ some b
  apart : ∀ n m, n < 8 → m < 8 → n ≠ m → (vs n).ownBlock = none ∨ (vs n).ownBlock ≠ (vs m).ownBlock
theorem Rows8.cell {B b : Nat} {W : World} {vs : Nat → Value} {f : Nat → List Int} (h : Rows8 B b W vs f) (n : Nat) (hn : n < 8) : W.cell? ⟨b, n, none⟩ = some (vs n) := by
  rw [cell_of_row _ b n _ _ _ h.heap]
  exact eight_at vs n hn
theorem Rows8.frozen {B b : Nat} {W : World} {vs : Nat → Value} {f : Nat → List Int} (h : Rows8 B b W vs f) (n : Nat) : W.frozen? ⟨b, n, none⟩ = false := by
  simp [World.frozen?, h.heap]
theorem Rows8.lt {B b : Nat} {W : World} {vs : Nat → Value} {f : Nat → List Int} (h : Rows8 B b W vs f) : b < W.heap.size := (Array.getElem?_eq_some_iff.1 h.heap).1
theorem Rows8.below {B b : Nat} {W W' : World} {vs : Nat → Value} {f : Nat → List Int} (h : Rows8 B b W vs f) (hb : Below W.heap.size W W') : Rows8 B b W' vs f :=
  ⟨(hb.block b h.lt).trans h.heap, fun n hn => ⟨(h.row n hn).1.below hb (Nat.le_refl _), (h.row n hn).2⟩, h.apart⟩
theorem Rows8.start {B b : Nat} {W : World} (hh : W.heap[b]? = some (.cells (eight fun _ => .slice none 0 0) 39)) : Rows8 B b W (fun _ => .slice none 0 0) (fun _ => []) :=
  ⟨hh, fun n _ => ⟨Owns.nil _ _ _ _ _, by simp [Value.ownBlock]⟩, fun n m _ _ _ => .inl rfl⟩
theorem Rows8.push {B b n : Nat} {wr w1 w4 : World} {vs : Nat → Value} {f g : Nat → List Int} {v4 : Value} (hn : n < 8) (h : Rows8 B b wr vs f) (h1 : Below wr.heap.size wr w1) (h4 : Ints B w4 v4 (g n)) (hg : w1.grownBy w4 (vs n).ownBlock)
    (hv : v4.ownBlock = (vs n).ownBlock ∨ ∀ k, v4.ownBlock = some k → w1.heap.size ≤ k) (hf : ∀ m, m < 8 → m ≠ n → g m = f m) :
    w4.cell? ⟨b, n, none⟩ = some (vs n) ∧ w4.frozen? ⟨b, n, none⟩ = false ∧ Rows8 B b (w4.setCell ⟨b, n, none⟩ v4) (fun m => if m = n then v4 else vs m) g := by
  have hz := h1.size
  have hlt := h.lt
  have hh : w4.heap[b]? = some (.cells (eight vs) 39) := by
    rw [hg.block b (by omega) (fun e => (h.row n hn).2 e.symm), h1.block b hlt]
    exact h.heap
  have hne : v4.ownBlock ≠ some b := by
    intro e
    rcases hv with hv | hv
    · exact (h.row n hn).2 (hv ▸ e)
    · have := hv b e; omega
  have hkeep : ∀ m, m < 8 → m ≠ n → Ints B w4 (vs m) (f m) := fun m hm hmn => by
    refine ((h.row m hm).1.below h1 (Nat.le_refl _)).kept hg ?_
    rcases h.apart m n hm hn hmn with e | e
    · exact .inl e
    · exact .inr e
  have hlv : ∀ m, m < 8 → ∀ k, (vs m).ownBlock = some k → k < wr.heap.size := fun m hm k hk => ((h.row m hm).1.lt k hk).2
  refine ⟨by rw [cell_of_row _ b n _ _ _ hh]; exact eight_at vs n hn, by simp [World.frozen?, hh], ⟨?_, fun m hm => ?_, fun m k hm hk hmk => ?_⟩⟩
  · rw [heap_setCell_same _ b n _ _ _ _ hh]
    congr 2
    have : n = 0 ∨ n = 1 ∨ n = 2 ∨ n = 3 ∨ n = 4 ∨ n = 5 ∨ n = 6 ∨ n = 7 := by omega
    rcases this with rfl | rfl | rfl | rfl | rfl | rfl | rfl | rfl <;> rfl
  · by_cases hmn : m = n
    · subst hmn
      rw [if_pos rfl]
      exact ⟨h4.keep fun k hk => Below.heap_setCell _ _ _ k fun e => hne (by rw [hk, e]), hne⟩
    · rw [if_neg hmn, hf m hm hmn]
      exact ⟨(hkeep m hm hmn).keep fun k hk => Below.heap_setCell _ _ _ k fun e => (h.row m hm).2 (by rw [hk, e]), (h.row m hm).2⟩
  · by_cases hmn : m = n
    · subst hmn
      rw [if_pos rfl, if_neg (fun e => hmk e.symm)]
      cases hx : v4.ownBlock with
      | none => exact .inl rfl
      | some j =>
        refine .inr fun e => ?_
        rcases hv with hv | hv
        · rcases h.apart m k hm hk hmk with e2 | e2
          · rw [← hv, hx] at e2; cases e2
          · exact e2 (by rw [← hv, hx]; exact e)
        · have k1 := hv j hx
          have k2 := hlv k hk j e.symm
          omega
    · rw [if_neg hmn]
      by_cases hkn : k = n
      · subst hkn
        rw [if_pos rfl]
        cases hx : (vs m).ownBlock with
        | none => exact .inl rfl
        | some j =>
          refine .inr fun e => ?_
          rcases hv with hv | hv
          · rcases h.apart m k hm hk hmn with e2 | e2
            · rw [hx] at e2; cases e2
            · exact e2 (by rw [hx, e, hv])
          · have k1 := hv j e.symm
            have k2 := hlv m hm j hx
            omega
      · rw [if_neg hkn]
        exact h.apart m k hm hk hmk
theorem setCell_id (W : World) (b k : Nat) (v : Value) (cs : Array Value) (t : TypeId) (fr : Nat × Nat) (h : W.heap[b]? = some (.cells cs t fr)) (hk : cs[k]? = some v) : W.setCell ⟨b, k, none⟩ v = W := by
  have e : cs.setIfInBounds k v = cs := by
    apply Array.ext_getElem?
    intro j
    rw [Array.getElem?_setIfInBounds]
    by_cases hj : k = j
    · subst hj
      rw [if_pos rfl, if_pos (Array.getElem?_eq_some_iff.1 hk).1, hk]
    · rw [if_neg hj]
  have hh : (W.setCell ⟨b, k, none⟩ v).heap = W.heap := by
    apply Array.ext_getElem?
    intro j
    by_cases hj : j = b
    · subst hj
      rw [heap_setCell_same _ _ _ _ _ _ _ h, e, h]
    · exact Below.heap_setCell _ _ _ j hj
  obtain ⟨a1, a2, a3, a4, a5⟩ := W
  simp only [World.setCell] at hh ⊢
  rw [hh]
theorem Rows8.store {B b : Nat} {W : World} {vs : Nat → Value} {f : Nat → List Int} (h : Rows8 B b W vs f) (n : Nat) (hn : n < 8) : Sem.run Try.prog (store ⟨b, n, none⟩ (vs n)) W = .ok () W := by
  obtain ⟨oa, cap, hv⟩ := slAt_slice (h.row n hn).1.at
  rw [run_store _ _ _ _ _ (by rw [hv]; rfl), h.cell n hn, h.frozen n]
  simp only [Bool.false_eq_true, if_false]
  rw [setCell_id W b n (vs n) _ _ _ h.heap (eight_at vs n hn)]
theorem store_one {b : Nat} {W : World} {v : Value} {cs : Array Value} {t : TypeId} (n : Nat) (h : W.heap[b]? = some (.cells cs t (0, 0))) (hn : n < cs.size) (h1 : v.oneCell' = true) : Sem.run Try.prog (store ⟨b, n, none⟩ v) W = .ok () (W.setCell ⟨b, n, none⟩ v) := by
  have hc : W.cell? ⟨b, n, none⟩ = some (cs[n]'hn) := by rw [cell_of_row _ b n _ _ _ h, Array.getElem?_eq_getElem hn]
  have hf : W.frozen? ⟨b, n, none⟩ = false := by simp [World.frozen?, h]
  rw [run_store _ _ _ _ _ h1, hc, hf]
  simp
/-- eight values laid over a block of eight cells, one by one -/
theorem stores8 {b : Nat} {W : World} {vs : Nat → Value} {cs : Array Value} {t : TypeId} (h : W.heap[b]? = some (.cells cs t (0, 0))) (hs : cs.size = 8) (h1 : ∀ n, n < 8 → (vs n).oneCell' = true) :
    ∃ W1 W2 W3 W4 W5 W6 W7 W8 : World, Sem.run Try.prog (store ⟨b, 0, none⟩ (vs 0)) W = .ok () W1 ∧ Sem.run Try.prog (store ⟨b, 1, none⟩ (vs 1)) W1 = .ok () W2 ∧ Sem.run Try.prog (store ⟨b, 2, none⟩ (vs 2)) W2 = .ok () W3 ∧ Sem.run Try.prog (store ⟨b, 3, none⟩ (vs 3)) W3 = .ok () W4 ∧ Sem.run Try.prog (store ⟨b, 4, none⟩ (vs 4)) W4 = .ok () W5 ∧ Sem.run Try.prog (store ⟨b, 5, none⟩ (vs 5)) W5 = .ok () W6 ∧ Sem.run Try.prog (store ⟨b, 6, none⟩ (vs 6)) W6 = .ok () W7 ∧ Sem.run Try.prog (store ⟨b, 7, none⟩ (vs 7)) W7 = .ok () W8 ∧
      W8.heap[b]? = some (.cells (eight vs) t) ∧ (∀ k, k ≠ b → W8.heap[k]? = W.heap[k]?) ∧ ∀ B, B ≤ b → Below B W W8 := by
  obtain ⟨l⟩ := cs
  match l, hs with
  | [a0, a1, a2, a3, a4, a5, a6, a7], _ =>
    have g0 := store_one (v := vs 0) 0 h (by simp) (h1 0 (by decide))
    have e1 : (W.setCell ⟨b, 0, none⟩ (vs 0)).heap[b]? = some (.cells #[vs 0, a1, a2, a3, a4, a5, a6, a7] t) := by rw [heap_setCell_same _ b 0 (vs 0) _ _ _ h]; rfl
    have g1 := store_one (v := vs 1) 1 e1 (by simp) (h1 1 (by decide))
    have e2 : ((W.setCell ⟨b, 0, none⟩ (vs 0)).setCell ⟨b, 1, none⟩ (vs 1)).heap[b]? = some (.cells #[vs 0, vs 1, a2, a3, a4, a5, a6, a7] t) := by rw [heap_setCell_same _ b 1 (vs 1) _ _ _ e1]; rfl
    have g2 := store_one (v := vs 2) 2 e2 (by simp) (h1 2 (by decide))
    have e3 : (((W.setCell ⟨b, 0, none⟩ (vs 0)).setCell ⟨b, 1, none⟩ (vs 1)).setCell ⟨b, 2, none⟩ (vs 2)).heap[b]? = some (.cells #[vs 0, vs 1, vs 2, a3, a4, a5, a6, a7] t) := by rw [heap_setCell_same _ b 2 (vs 2) _ _ _ e2]; rfl
    have g3 := store_one (v := vs 3) 3 e3 (by simp) (h1 3 (by decide))
    have e4 : ((((W.setCell ⟨b, 0, none⟩ (vs 0)).setCell ⟨b, 1, none⟩ (vs 1)).setCell ⟨b, 2, none⟩ (vs 2)).setCell ⟨b, 3, none⟩ (vs 3)).heap[b]? = some (.cells #[vs 0, vs 1, vs 2, vs 3, a4, a5, a6, a7] t) := by rw [heap_setCell_same _ b 3 (vs 3) _ _ _ e3]; rfl
    have g4 := store_one (v := vs 4) 4 e4 (by simp) (h1 4 (by decide))
    have e5 : (((((W.setCell ⟨b, 0, none⟩ (vs 0)).setCell ⟨b, 1, none⟩ (vs 1)).setCell ⟨b, 2, none⟩ (vs 2)).setCell ⟨b, 3, none⟩ (vs 3)).setCell ⟨b, 4, none⟩ (vs 4)).heap[b]? = some (.cells #[vs 0, vs 1, vs 2, vs 3, vs 4, a5, a6, a7] t) := by rw [heap_setCell_same _ b 4 (vs 4) _ _ _ e4]; rfl
    have g5 := store_one (v := vs 5) 5 e5 (by simp) (h1 5 (by decide))
    have e6 : ((((((W.setCell ⟨b, 0, none⟩ (vs 0)).setCell ⟨b, 1, none⟩ (vs 1)).setCell ⟨b, 2, none⟩ (vs 2)).setCell ⟨b, 3, none⟩ (vs 3)).setCell ⟨b, 4, none⟩ (vs 4)).setCell ⟨b, 5, none⟩ (vs 5)).heap[b]? = some (.cells #[vs 0, vs 1, vs 2, vs 3, vs 4, vs 5, a6, a7] t) := by rw [heap_setCell_same _ b 5 (vs 5) _ _ _ e5]; rfl
    have g6 := store_one (v := vs 6) 6 e6 (by simp) (h1 6 (by decide))
    have e7 : (((((((W.setCell ⟨b, 0, none⟩ (vs 0)).setCell ⟨b, 1, none⟩ (vs 1)).setCell ⟨b, 2, none⟩ (vs 2)).setCell ⟨b, 3, none⟩ (vs 3)).setCell ⟨b, 4, none⟩ (vs 4)).setCell ⟨b, 5, none⟩ (vs 5)).setCell ⟨b, 6, none⟩ (vs 6)).heap[b]? = some (.cells #[vs 0, vs 1, vs 2, vs 3, vs 4, vs 5, vs 6, a7] t) := by rw [heap_setCell_same _ b 6 (vs 6) _ _ _ e6]; rfl
    have g7 := store_one (v := vs 7) 7 e7 (by simp) (h1 7 (by decide))
    have e8 : ((((((((W.setCell ⟨b, 0, none⟩ (vs 0)).setCell ⟨b, 1, none⟩ (vs 1)).setCell ⟨b, 2, none⟩ (vs 2)).setCell ⟨b, 3, none⟩ (vs 3)).setCell ⟨b, 4, none⟩ (vs 4)).setCell ⟨b, 5, none⟩ (vs 5)).setCell ⟨b, 6, none⟩ (vs 6)).setCell ⟨b, 7, none⟩ (vs 7)).heap[b]? = some (.cells #[vs 0, vs 1, vs 2, vs 3, vs 4, vs 5, vs 6, vs 7] t) := by rw [heap_setCell_same _ b 7 (vs 7) _ _ _ e7]; rfl
    refine ⟨_, _, _, _, _, _, _, _, g0, g1, g2, g3, g4, g5, g6, g7, e8, fun k hk => ?_, fun B hB => ?_⟩
    · rw [Below.heap_setCell _ _ _ k hk, Below.heap_setCell _ _ _ k hk, Below.heap_setCell _ _ _ k hk, Below.heap_setCell _ _ _ k hk, Below.heap_setCell _ _ _ k hk, Below.heap_setCell _ _ _ k hk, Below.heap_setCell _ _ _ k hk, Below.heap_setCell _ _ _ k hk]
    · exact ((((((((Below.refl B W).setCell hB _).setCell hB _).setCell hB _).setCell hB _).setCell hB _).setCell hB _).setCell hB _).setCell hB _
/-- what Share leaves -/
def SharePost (nodes : List Int) (salt : Int) (w : World) (e : Ending) (w' : World) : Prop :=
  ∃ vs, e = .returned (.agg (eight vs)) ∧ (∀ n, n < 8 → SlAt icells w' (vs n) (shareTo nodes salt n 8)) ∧ Below w.heap.size w w'
end Go.Proofs.Ytlohmmhdfabjiaa
