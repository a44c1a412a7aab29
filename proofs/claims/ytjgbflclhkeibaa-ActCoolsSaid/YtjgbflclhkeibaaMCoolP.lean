/-
  Plain facts on how an actuator comes to rest: each tick it is nearer to what is asked for. No function of the program is entered.
  Plain facts on one tick of an actuator that comes to rest. No function of the program is entered.
-/
import Derived.Test.YtjgbflclhkeibaaMActP
namespace Go.Proofs.Ytjgbflclhkeibaa
open Go.Sort
set_option linter.unusedVariables false
theorem lastN_length (k : Nat) (l : List Int) : (lastN k l).length = min k l.length := by unfold lastN; rw [List.length_drop]; omega
theorem lastN_rev (k : Nat) (l : List Int) : (lastN k l).reverse = l.reverse.take k := by
  unfold lastN
  rw [List.reverse_drop]
  by_cases h : k ≤ l.length
  · rw [show l.length - (l.length - k) = k by omega]
  · rw [show l.length - (l.length - k) = l.length by omega, List.take_of_length_le (by simp), List.take_of_length_le (by simp; omega)]
theorem takeWhile_take_len {α : Type} (p : α → Bool) : ∀ (l : List α) (k : Nat), ((l.take k).takeWhile p).length = min k (l.takeWhile p).length
  | [], k => by simp
  | x :: l, 0 => by simp
  | x :: l, k + 1 => by
    rw [List.take_succ_cons, List.takeWhile_cons, List.takeWhile_cons]
    cases h : p x
    · simp
    · simp only [if_true, List.length_cons, takeWhile_take_len p l k]; omega
theorem takeWhile_len_lt {α : Type} (p : α → Bool) : ∀ (l : List α), (∃ x ∈ l, p x = false) → (l.takeWhile p).length < l.length
  | [], ⟨x, hx, _⟩ => nomatch hx
  | y :: l, ⟨x, hx, hp⟩ => by
    rw [List.takeWhile_cons]
    cases h : p y
    · simp
    · rcases List.mem_cons.1 hx with rfl | hx
      · rw [h] at hp; exact nomatch hp
      · have := takeWhile_len_lt p l ⟨x, hx, hp⟩
        simp only [if_true, List.length_cons]; omega
theorem takeWhile_len_le {α : Type} (p : α → Bool) : ∀ (l : List α), (l.takeWhile p).length ≤ l.length
  | [] => by simp
  | y :: l => by
    rw [List.takeWhile_cons]
    have := takeWhile_len_le p l
    cases p y <;> simp; omega
/-- how many at a row's end are less than x -/
def suf (x : Int) (l : List Int) : Nat := (l.reverse.takeWhile fun y => decide (y < x)).length
theorem suf_le (x : Int) (l : List Int) : suf x l ≤ l.length := by
  have := takeWhile_len_le (fun y => decide (y < x)) l.reverse
  rw [List.length_reverse] at this
  exact this
theorem suf_lt {x : Int} {l : List Int} (h : ∃ y ∈ l, x ≤ y) : suf x l < l.length := by
  obtain ⟨y, hy, hxy⟩ := h
  have := takeWhile_len_lt (fun y => decide (y < x)) l.reverse ⟨y, List.mem_reverse.2 hy, decide_eq_false (by omega)⟩
  rw [List.length_reverse] at this
  exact this
theorem suf_snoc {x w : Int} (k : Nat) (l : List Int) (h : w < x) : suf x (lastN k (l ++ [w])) = min k (suf x l + 1) := by
  unfold suf
  rw [lastN_rev, takeWhile_take_len, List.reverse_append, List.reverse_singleton, List.singleton_append, List.takeWhile_cons, if_pos (decide_eq_true h), List.length_cons]
theorem foldl_max_le (l : List Int) : ∀ a M : Int, a ≤ M → (∀ x ∈ l, x ≤ M) → l.foldl max a ≤ M := by
  induction l with
  | nil => intro a M h _; exact h
  | cons y l ih =>
    intro a M h hl
    rw [List.foldl_cons]
    exact ih _ M (by have := hl y (List.mem_cons_self ..); omega) fun x hx => hl x (List.mem_cons_of_mem _ hx)
/-- how many ticks are left at most, but for the one that is waited out now -/
def leftI (A K at' : Int) (l : List Int) : Int := (if at' < A then (A - at') * 20 else (at' - A) * 40) + (if A < at' then K - suf at' l else K - l.length)
theorem leftI_pos {A K at' : Int} {l : List Int} (h : (l.length : Int) ≤ K) : 0 ≤ leftI A K at' l := by
  unfold leftI
  have := suf_le at' l
  split <;> split <;> omega
theorem leftI_le {A K at' : Int} {l : List Int} (h0 : 0 ≤ A) (h1 : A ≤ 1000) (h2 : 0 ≤ at') (h3 : at' ≤ 255) (hK : K ≤ 16) : leftI A K at' l ≤ 20016 := by
  unfold leftI
  split <;> split <;> omega
theorem cool_round {A K at' w up down : Int} {l : List Int} (h1 : 1 ≤ K) (h2 : K ≤ 16) (hl : (l.length : Int) ≤ K) (hu : 1 ≤ up) (hd : 1 ≤ down) (hw : w = within A (at' - down) (at' + up)) :
    (stableI l w at' = at' → (at' = A ∧ ((lastN K.toNat (l ++ [w])).length : Int) = K) ∨ (¬ (at' = A ∧ ((lastN K.toNat (l ++ [w])).length : Int) = K) ∧ leftI A K at' (lastN K.toNat (l ++ [w])) + 1 ≤ leftI A K at' l)) ∧
    (stableI l w at' ≠ at' → (A ≤ stableI l w at' ∧ stableI l w at' ≤ at' ∨ at' ≤ stableI l w at' ∧ stableI l w at' ≤ A) ∧ leftI A K (stableI l w at') (lastN K.toNat (l ++ [w])) + 20 ≤ leftI A K at' l) := by
  have hlen : ((lastN K.toNat (l ++ [w])).length : Int) = min K (l.length + 1) := by
    rw [lastN_length, List.length_append, List.length_singleton]
    omega
  have hsl := suf_le (stableI l w at') (lastN K.toNat (l ++ [w]))
  have hsn := fun (h : w < at') => suf_snoc K.toNat l h
  have hlt := fun h => suf_lt (x := at') (l := l) h
  have hs2 := suf_le at' l
  have hge := foldl_max_ge l w
  have hle := foldl_max_le l w (at' - 1)
  have hww : (A < at' → A ≤ w ∧ w < at') ∧ (at' < A → at' < w ∧ w ≤ A) ∧ (at' = A → w = A) := by
    rw [hw]
    unfold within
    refine ⟨fun h => ?_, fun h => ?_, fun h => ?_⟩ <;> (split <;> (try split) <;> omega)
  clear hw
  by_cases hat : at' ≤ w
  · have hst : stableI l w at' = w := by unfold stableI; rw [if_pos hat]
    rw [hst] at hsl ⊢
    refine ⟨fun he => ?_, fun hne => ⟨by omega, ?_⟩⟩
    · obtain rfl : at' = A := by omega
      by_cases hx : ((lastN K.toNat (l ++ [w])).length : Int) = K
      · exact .inl ⟨rfl, hx⟩
      · refine .inr ⟨fun h => hx h.2, ?_⟩
        unfold leftI
        rw [if_neg (by omega), if_neg (by omega), if_neg (by omega)]
        omega
    · unfold leftI
      rw [if_neg (show ¬ A < w by omega), if_pos (show at' < A by omega), if_neg (show ¬ A < at' by omega)]
      split <;> omega
  · have hst : stableI l w at' = min (l.foldl max w) at' := by unfold stableI; rw [if_neg hat]
    have hAt : A < at' := by omega
    have hsn := hsn (by omega)
    refine ⟨fun he => .inr ⟨fun h => by omega, ?_⟩, fun hne => ?_⟩
    · have hex : ∃ y ∈ l, at' ≤ y := by
        apply Classical.byContradiction
        intro hno
        have := hle (by omega) fun x hx => by
          have : ¬ at' ≤ x := fun h => hno ⟨x, hx, h⟩
          omega
        omega
      have := hlt hex
      unfold leftI
      rw [if_neg (show ¬ at' < A by omega), if_pos hAt, if_pos hAt, hsn]
      omega
    · have hpl : A ≤ stableI l w at' ∧ stableI l w at' < at' := by omega
      refine ⟨by omega, ?_⟩
      unfold leftI
      rw [if_neg (show ¬ at' < A by omega), if_pos hAt, if_neg (show ¬ stableI l w at' < A by omega)]
      split <;> omega
end Go.Proofs.Ytjgbflclhkeibaa
namespace Go.Proofs.Ytjgbflclhkeibaa
open Go.Sort
set_option linter.unusedVariables false
structure CoolSt (A K cool tick at' wrote : Int) (t : Trk) : Prop where
  a0 : 0 ≤ at'
  a1 : at' ≤ 1000
  len : (t.wished.length : Int) ≤ K
  wr : (wrote = -1 ∧ t.written = false) ∨ (0 ≤ wrote ∧ wrote ≤ tick ∧ t.written = true ∧ t.at' = wrote)
  left : tick + (if 0 ≤ wrote then max 0 (wrote + cool - tick) else 0) + leftI A K at' t.wished + 1 ≤ 30000
theorem satSub_small {a b : Int} (h1 : 0 ≤ a) (h2 : a ≤ 100000) (h3 : 0 ≤ b) (h4 : b ≤ 100000) : satSub a b = a - b := by
  unfold satSub
  rw [clamp_id (n := a) (by omega) (by omega), clamp_id (n := b) (by omega) (by omega), clamp_id (by omega) (by omega)]
theorem cool_step {p : Pol} {load K A tick at' wrote : Int} {t : Trk} (hp : p.right) (hs : p.slack = 0) (l0 : 0 ≤ load) (l1 : load ≤ 65535) (hK : 1 ≤ K) (hK2 : K ≤ 16) (hA : A = (asked p load).1) (hc : p.cool ≤ 19) (ht : 0 ≤ tick) (h : CoolSt A K p.cool tick at' wrote t) :
    tick < 30000 ∧
    ((0 ≤ wrote ∧ tick < wrote + p.cool) → planI ⟨5, 4, K, 0⟩ t (knownE p load 0) [5] 0 at' tick = ((0, 14), t) ∧ CoolSt A K p.cool (tick + 1) at' wrote t) ∧
    (¬ (0 ≤ wrote ∧ tick < wrote + p.cool) → ∃ n f t', planI ⟨5, 4, K, 0⟩ t (knownE p load 0) [5] 0 at' tick = ((n, f), t') ∧
      ((f = 15 ∧ ((at' = A ∧ (t'.wished.length : Int) = K) ∨ (¬ (at' = A ∧ (t'.wished.length : Int) = K) ∧ (t'.wished.length : Int) ≤ K ∧ CoolSt A K p.cool (tick + 1) at' wrote t'))) ∨ (f = 0 ∧ CoolSt A K p.cool (tick + 1) n tick ⟨t'.wished, true, tick⟩))) := by
  have hlp := leftI_pos (A := A) (at' := at') h.len
  have hlt : tick < 30000 := by have := h.left; omega
  have hg := hp
  unfold Pol.right at hg
  have hAb := asked_bd hp load
  rw [← hA] at hAb
  have hpl := planI_known ⟨5, 4, K, 0⟩ (by unfold ACfg.right; simp; omega) t p hp load 0 at' tick [5] l0 l1 h.a0 h.a1
  rw [if_pos (show own (rk [5] 0 (⟨5, 4, K, 0⟩ : ACfg).salt) = ((⟨5, 4, K, 0⟩ : ACfg).self, 0) from own_one 5 0 _ (by decide) (by decide)), stepI_straight p hp hs load at' l0 l1 h.a0 h.a1, ← hA] at hpl
  have hsub := satSub_small ht (show tick ≤ 100000 by omega) (show 0 ≤ p.cool by omega) (by omega)
  have hte : tooEarly t p tick ↔ (0 ≤ wrote ∧ tick < wrote + p.cool) := by
    unfold tooEarly
    rw [hsub]
    rcases h.wr with ⟨h1, h2⟩ | ⟨h1, h2, h3, h4⟩
    · rw [h2]
      constructor
      · rintro ⟨h5, _⟩; cases h5
      · rintro ⟨h5, _⟩; omega
    · rw [h3, h4]
      constructor
      · rintro ⟨_, h5⟩; exact ⟨h1, by omega⟩
      · rintro ⟨_, h5⟩; exact ⟨rfl, by omega⟩
  refine ⟨hlt, fun hcd => ?_, fun hcd => ?_⟩
  · rw [if_pos (hte.2 hcd)] at hpl
    refine ⟨hpl, h.a0, h.a1, h.len, ?_, ?_⟩
    · rcases h.wr with h1 | ⟨h1, h2, h3, h4⟩
      · exact .inl h1
      · exact .inr ⟨h1, by omega, h3, h4⟩
    · have := h.left
      rw [if_pos hcd.1] at this ⊢
      omega
  · rw [if_neg (fun hx => hcd (hte.1 hx))] at hpl
    obtain ⟨x, hx⟩ : ∃ x, within A (at' - p.down) (at' + p.up) = x := ⟨_, rfl⟩
    obtain ⟨hr1, hr2⟩ := cool_round (A := A) (K := K) (at' := at') (w := x) (up := p.up) (down := p.down) (l := t.wished) hK hK2 h.len (by omega) (by omega) hx.symm
    rw [hx] at hpl
    have hl2 : ((lastN K.toNat (t.wished ++ [x])).length : Int) ≤ K := by have := lastN_len K.toNat (t.wished ++ [x]); omega
    have hcd0 : (if 0 ≤ wrote then max 0 (wrote + p.cool - tick) else 0) = 0 := by
      split
      · omega
      · rfl
    have hleft := h.left
    rw [hcd0] at hleft
    by_cases hst : stableI t.wished x at' = at'
    · rw [if_pos hst] at hpl
      refine ⟨0, 15, _, hpl, .inl ⟨rfl, ?_⟩⟩
      rcases hr1 hst with h1 | ⟨h1, h2⟩
      · exact .inl h1
      · refine .inr ⟨h1, hl2, h.a0, h.a1, hl2, ?_, ?_⟩
        · rcases h.wr with h5 | ⟨h5, h6, h7, h8⟩
          · exact .inl h5
          · exact .inr ⟨h5, by omega, h7, h8⟩
        · have hcd1 : (if 0 ≤ wrote then max 0 (wrote + p.cool - (tick + 1)) else 0) = 0 := by
            split
            · omega
            · rfl
          rw [hcd1]
          simp only
          omega
    · rw [if_neg hst] at hpl
      obtain ⟨hb, hdec⟩ := hr2 hst
      refine ⟨_, 0, _, hpl, .inr ⟨rfl, ?_⟩⟩
      have hnew := leftI_pos (A := A) (at' := stableI t.wished x at') hl2
      have h0 := h.a0
      have h1 := h.a1
      refine ⟨by omega, by omega, hl2, .inr ⟨ht, by omega, rfl, rfl⟩, ?_⟩
      rw [if_pos ht]
      simp only at hnew ⊢
      omega
theorem cool_start {A K cool now : Int} (h0 : 0 ≤ A) (h1 : A ≤ 1000) (n0 : 0 ≤ now) (n1 : now ≤ 255) (hK : K ≤ 16) (hK0 : 0 ≤ K) : CoolSt A K cool 0 now (-1) Trk.none := by
  have := leftI_le (l := []) h0 h1 n0 n1 hK
  refine ⟨n0, by omega, by simp [Trk.none]; omega, .inl ⟨rfl, rfl⟩, ?_⟩
  rw [if_neg (by omega)]
  simp only [Trk.none]
  omega
end Go.Proofs.Ytjgbflclhkeibaa
