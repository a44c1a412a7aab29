/-
  Readings and rows, for any seat: literals, beginnings and parts of slices, cells behind stores, append with the count of draws, and worlds that lie on top of another one.
-/
import Derived.Test.YtkdjfoehpioghaaRd
import Derived.Deep.LoopGhost
import Derived.Deep.RegionLaw
import Derived.Sort.Grow
import Derived.Deep.Draws
namespace Go.Proofs.Ytkdjfoehpioghaa
open Go.RowKit
set_option linter.unusedVariables false

theorem slAt_new {α : Type} {enc : α → List Value} (W : World) (cs : Array Value) (e n cap : Nat) (fr : Nat × Nat) (l : List α) (hc : cs.toList = l.flatMap enc) (hn : n = l.length) (hcap : n ≤ cap) : SlAt enc (W.alloc (.cells cs e fr)) (.slice (some ⟨W.heap.size, 0, none⟩) n cap) l := by
  subst hn
  refine SlAt.lay hcap fun j u hu => ?_
  rw [Nat.zero_add, cell_of_row _ W.heap.size j cs e fr (heap_alloc_new W _), ← Array.getElem?_toList, hc]
  exact hu

theorem Owns.lower {α : Type} {enc : α → List Value} {k base base' e : Nat} {w : World} {v : Value} {l : List α} (h : Owns enc k base e w v l) (hb : base' ≤ base) : Owns enc k base' e w v l := by
  refine ⟨h.1, ?_⟩
  rcases h.2 with hn | ⟨g, cap, cur, rfl, hbg, rest⟩
  · exact .inl hn
  · exact .inr ⟨g, cap, cur, rfl, Nat.le_trans hb hbg, rest⟩

/-- a cell behind a store -/
theorem cell_set (W : World) (b o b' o' : Nat) (v : Value) : (W.setCell ⟨b, o, none⟩ v).cell? ⟨b', o', none⟩ = if b = b' ∧ o = o' then (W.cell? ⟨b', o', none⟩).map (fun _ => v) else W.cell? ⟨b', o', none⟩ := by
  simp only [World.setCell, World.cell?, Array.getElem?_modify]
  by_cases hb : b = b'
  · subst hb
    rw [if_pos rfl]
    cases h : W.heap[b]? with
    | none => simp
    | some x =>
      cases x with
      | cells c e fr =>
        by_cases ho : o = o'
        · subst ho
          simp only [Option.map_some, Option.isSome_none, Bool.false_eq_true, if_false, and_self, if_true]
          by_cases hlt : o < c.size
          · simp [hlt]
          · simp [hlt]
        · simp [ho]
      | _ => simp
  · rw [if_neg hb, if_neg (fun h => hb h.1)]

theorem below_drewN (w : World) (n : Nat) : RowKit.Below w.heap.size w (w.drewN n) := ⟨rfl, rfl, rfl, Nat.le_refl _, fun _ _ => rfl⟩
theorem below_drew {B : Nat} {w w' : World} (h : RowKit.Below B w w') : RowKit.Below B w w'.drew := h.trans ⟨rfl, rfl, rfl, Nat.le_refl _, fun _ _ => rfl⟩
theorem flat_take {α : Type} (enc : α → List Value) (k : Nat) (hk : ∀ x, (enc x).length = k) : ∀ (l : List α) (n : Nat), (l.take n).flatMap enc = (l.flatMap enc).take (n * k)
  | [], n => by simp
  | x :: l, 0 => by simp
  | x :: l, n + 1 => by
    rw [List.take_succ_cons, List.flatMap_cons, List.flatMap_cons, flat_take enc k hk l n, List.take_append, hk, show (n + 1) * k - k = n * k by rw [Nat.add_mul]; omega, List.take_of_length_le (l := enc x) (by rw [hk, Nat.add_mul]; omega)]
theorem flat_drop {α : Type} (enc : α → List Value) (k : Nat) (hk : ∀ x, (enc x).length = k) : ∀ (l : List α) (n : Nat), (l.drop n).flatMap enc = (l.flatMap enc).drop (n * k)
  | [], n => by simp
  | x :: l, 0 => by simp
  | x :: l, n + 1 => by
    rw [List.drop_succ_cons, List.flatMap_cons, flat_drop enc k hk l n, List.drop_append, hk, show (n + 1) * k - k = n * k by rw [Nat.add_mul]; omega, (List.drop_eq_nil_of_le (by rw [hk, Nat.add_mul]; omega) : (enc x).drop ((n + 1) * k) = []), List.nil_append]
theorem SlAt.sub {α : Type} {enc : α → List Value} {k : Nat} (hk : ∀ x, (enc x).length = k) (k0 : 0 < k) {w : World} {oa : Option Addr} {n cap : Nat} {l : List α} (h : SlAt enc w (.slice oa n cap) l) (lo hi : Nat) (h1 : lo ≤ hi) (h2 : hi ≤ l.length) :
    SlAt enc w (sliced oa lo hi cap k) ((l.take hi).drop lo) := by
  have hpl := fun hl => h.plain hk k0 hl
  obtain ⟨oa', cap', hv, hcap, hn, hc⟩ := h
  simp only [Value.slice.injEq] at hv
  obtain ⟨rfl, rfl, rfl⟩ := hv
  have hlen : ((l.take hi).drop lo).length = hi - lo := by rw [List.length_drop, List.length_take]; omega
  unfold sliced
  by_cases hm : cap = lo
  · rw [if_pos hm]
    have hnil : (l.take hi).drop lo = [] := List.eq_nil_of_length_eq_zero (by omega)
    rw [hnil]
    refine ⟨oa, cap - lo, ?_, Nat.zero_le _, fun _ => by omega, fun a _ j u hu => by simp at hu⟩
    rw [show hi - lo = 0 by omega]
    rfl
  · rw [if_neg hm]
    refine ⟨_, cap - lo, by rw [hlen], by omega, fun hno => ?_, fun a ha j u hu => ?_⟩
    · have : oa = none := by cases oa <;> simp_all
      have := hn this
      omega
    · have hl : l ≠ [] := by
        rintro rfl
        simp at hu
      obtain ⟨b, off, rfl⟩ := hpl hl
      simp only [Option.map_some, Option.some.injEq, Addr.add_lit] at ha
      subst ha
      rw [Addr.add_lit]
      rw [flat_drop enc k hk, flat_take enc k hk, List.getElem?_drop] at hu
      have h3 : (l.flatMap enc)[lo * k + j]? = some u := by
        rw [List.getElem?_take] at hu
        split at hu
        · exact hu
        · simp at hu
      have := hc _ rfl _ u h3
      rwa [Addr.add_lit, ← Nat.add_assoc] at this
theorem Owns.take {α : Type} {enc : α → List Value} {k base e : Nat} (hk : ∀ x, (enc x).length = k) {w : World} {oa : Option Addr} {n cap : Nat} {l : List α} (h : Owns enc k base e w (.slice oa n cap) l) (m : Nat) (hm : m ≤ l.length) : Owns enc k base e w (.slice oa m cap) (l.take m) := by
  have hl : (l.take m).length = m := by rw [List.length_take]; omega
  refine ⟨by rw [flat_len enc k hk], ?_⟩
  rcases h.2 with ⟨hv, hn⟩ | ⟨g, cap', cur, hv, hb, hh, hc, hmx, hs, ht⟩
  · simp only [Value.slice.injEq] at hv
    obtain ⟨rfl, rfl, rfl⟩ := hv
    obtain rfl : m = 0 := by omega
    exact .inl ⟨rfl, by simp⟩
  · simp only [Value.slice.injEq] at hv
    obtain ⟨rfl, rfl, rfl⟩ := hv
    refine .inr ⟨g, cap, cur, by rw [hl], hb, hh, by rw [hl]; omega, hmx, hs, ?_⟩
    have e1 : (l.take m).flatMap enc = (l.flatMap enc).take (m * k) := by
      have e2 : l.flatMap enc = (l.take m).flatMap enc ++ (l.drop m).flatMap enc := by rw [← List.flatMap_append, List.take_append_drop]
      rw [e2]
      exact (List.take_left' (by rw [flat_len enc k hk, hl])).symm
    rw [e1, ← ht, List.take_take, hl]
    congr 1
    exact (Nat.min_eq_left (Nat.mul_le_mul_right _ hm)).symm

theorem bcell {W w1 : World} (hb : Below W.heap.size W w1) : (∀ b o, b < W.heap.size → w1.cell? ⟨b, o, none⟩ = W.cell? ⟨b, o, none⟩) ∧ (∀ b o, b < W.heap.size → w1.frozen? ⟨b, o, none⟩ = W.frozen? ⟨b, o, none⟩) :=
  ⟨fun b o h => hb.cell (p := ⟨b, o, none⟩) h, fun b o h => hb.frozen (p := ⟨b, o, none⟩) h⟩

theorem run_append_drawn {P : Program} (w : World) (base : Nat) (t ty e : TypeId) (i : TypeInfo) (z : Value) (size bytes : Nat) (ht : P.underlying t = some (.slice e)) (hi : P.info? e = some i) (hz : i.zero = some z)
    (hsize : i.size = size) (hby : i.bytes = bytes) (hzs : z.cells.size = size) (hsz : 0 < size)
    (v : Value) (n : Nat) (xs : List Value) (hown : w.ownsRow base e size v n xs)
    (a : Addr) (m c : Nat) (news : List Value) (hl : news.length = m * size) (hnews : ∀ j u, news[j]? = some u → w.cell? (a.add j) = some u) (h1 : ∀ u ∈ news, u.oneCell' = true)
    (h63 : n + m ≤ maxLen) (hbytes : (n + m) * bytes ≤ 140737488355328) (v' : Value) (w' : World) (hr : (Builtin.append_ #[t, t] ty #[v, .slice (some a) m c]).run P w = .ok v' w') : w.drawn ≤ w'.drawn := by
  subst hsize
  subst hby
  have hsmall : n + m ≤ 9223372036854775807 := by simp only [maxLen] at h63; omega
  rcases hown.2 with ⟨rfl, rfl⟩ | ⟨g, cap, cur, rfl, hbg, hgg, hnc, hcm, hcs, htake⟩
  · have hx : xs = [] := List.eq_nil_of_length_eq_zero (by simpa using hown.1)
    subst hx
    by_cases hm : m = 0
    · subst hm
      have hn : news = [] := List.eq_nil_of_length_eq_zero (by simpa using hl)
      subst hn
      have hr2 : (Builtin.append_ #[t, t] ty #[.slice none 0 0, .slice (some a) 0 c]).run P w = .ok (.slice none 0 0) w := by simp [Builtin.append_, run_underlying ht, sizeOf, typeInfo, hi, Builtin.lenOf, Builtin.firstCells, loadCells, loadCellsFrom]
      rw [hr] at hr2
      cases hr2
      exact Nat.le_refl _
    · have hr2 := run_append_nil (P := P) w t ty e i z ht hi hz a m c news hl hnews (by omega) (by omega) (by have hb := hbytes; simp only [Nat.zero_add] at hb; omega)
      rw [hr] at hr2
      cases hr2
      exact Nat.le_succ _
  · by_cases hroom : n + m ≤ cap
    · have hfit : n * i.size + news.length ≤ cur.size := by rw [hl, hcs, ← Nat.add_mul]; exact Nat.mul_le_mul_right _ hroom
      have hr2 := run_append_room (P := P) w t ty e i ht hi g n cap cur hgg a m c news hl hnews h1 hroom hfit
      rw [hr] at hr2
      cases hr2
      exact Nat.le_refl _
    · have holds : ∀ j u, xs[j]? = some u → w.cell? ((⟨g, 0, none⟩ : Addr).add j) = some u := hown.cells (g := g) rfl
      have hr2 := run_append_grow (P := P) w t ty e i z ht hi hz ⟨g, 0, none⟩ n cap xs hown.1 holds a m c news hl hnews (by omega) (by omega) (growslice_fits (by omega) hbytes)
      rw [hr] at hr2
      cases hr2
      exact Nat.le_succ _

/-- the walk's law: append a slice that reads as ms onto a row of one's own that reads as l -/
theorem wpList_appD {α : Type} {P : Program} (enc : α → List Value) (k : Nat) (hk : ∀ x, (enc x).length = k) (k0 : 0 < k) (h1 : ∀ x, ∀ v ∈ enc x, v.oneCell' = true)
    (w : World) {ops : Array Oper} {rest : List Oper} {o : Oper} {a : Act} {Q : Exit → Act → World → Prop} (hgd : o.guard = none) (s x : Operand) (t : TypeId)
    (ho : o.op = .call { callee := .builtin .append, args := #[s, x], argTypes := #[t, t] })
    (base : Nat) (e : TypeId) (z : Value) (bytes : Nat) (ht : P.underlying t = some (.slice e)) (hinfo : (P.info? e).map (fun i => (i.zero, i.size, i.bytes)) = some (some z, k, bytes)) (hzs : z.cells.size = k)
    (v : Value) (l : List α) (hs : a.eval s = v) (hown : Owns enc k base e w v l)
    (vx : Value) (ms : List α) (hx : a.eval x = vx) (hxs : SlAt enc w vx ms)
    (hbytes : (l.length + ms.length) * bytes ≤ 140737488355328) (h63 : l.length + ms.length ≤ 9223372036854775807) (hbase : base ≤ w.heap.size)
    (h : ∀ v' w', Owns enc k base e w' v' (l ++ ms) → w.grownBy w' v.ownBlock → (v'.ownBlock = v.ownBlock ∨ ∀ g, v'.ownBlock = some g → w.heap.size ≤ g) → w.drawn ≤ w'.drawn → wpList P ops Q rest (a.put o.dst v') w') : wpList P ops Q (o :: rest) a w := by
  obtain ⟨i, hi, hz, hsize, hby⟩ := info_parts hinfo
  obtain ⟨oa, cap, rfl, hcap, hn, hc⟩ := hxs
  cases oa with
  | none =>
    obtain rfl := hn rfl
    obtain rfl : ms = [] := List.eq_nil_of_length_eq_zero (by omega)
    refine wpList_append_own_none (P := P) hgd s x t ho base e i k ht hi v l.length (l.flatMap enc) hs hown hx ?_
    exact h v w (by rw [List.append_nil]; exact hown) (World.grownBy.refl w _) (.inl rfl) (Nat.le_refl _)
  | some aa =>
    refine wpList_plain hgd fun K hK => ?_
    obtain ⟨v', w', hr, h2, h3, h4⟩ := run_append_own2 (P := P) w base t o.type e i z k bytes ht hi hz hsize hby hzs k0 v l.length (l.flatMap enc) hown aa ms.length cap (ms.flatMap enc) (flat_len enc k hk ms)
      (fun j u hu => hc aa rfl j u hu) (fun u hu => by obtain ⟨y, _, hy⟩ := List.mem_flatMap.1 hu; exact h1 y u hy) (by simp only [maxLen]; omega) hbytes hbase
    have hdr := run_append_drawn (P := P) w base t o.type e i z k bytes ht hi hz hsize hby hzs k0 v l.length (l.flatMap enc) hown aa ms.length cap (ms.flatMap enc) (flat_len enc k hk ms)
      (fun j u hu => hc aa rfl j u hu) (fun u hu => by obtain ⟨y, _, hy⟩ := List.mem_flatMap.1 hu; exact h1 y u hy) (by simp only [maxLen]; omega) hbytes v' w' hr
    unfold Oper.wp execOp
    simp only [ho, resolve, invoke, builtin, Sem.run_bind, Sem.run_pure, Result.andThen_ok, List.map_toArray, List.map_cons, List.map_nil, hs, hx, hr]
    exact hK _ _ (h v' w' (by unfold Owns; rw [List.length_append, List.flatMap_append]; exact h2) h3 h4 hdr)
theorem step_appD {α : Type} {P : Program} (enc : α → List Value) (k : Nat) (hk : ∀ x, (enc x).length = k) (k0 : 0 < k) (h1 : ∀ x, ∀ v ∈ enc x, v.oneCell' = true)
    (w : World) {ops : Array Oper} {o : Oper} {a : Act} {Q : Exit → Act → World → Prop} {K : Act → World → Prop} {E : Prop} (hgd : o.guard = none) (s x : Operand) (t : TypeId)
    (ho : o.op = .call { callee := .builtin .append, args := #[s, x], argTypes := #[t, t] })
    (base : Nat) (e : TypeId) (z : Value) (bytes : Nat) (ht : P.underlying t = some (.slice e)) (hinfo : (P.info? e).map (fun i => (i.zero, i.size, i.bytes)) = some (some z, k, bytes)) (hzs : z.cells.size = k)
    (v : Value) (l : List α) (hs : a.eval s = v) (hown : Owns enc k base e w v l)
    (vx : Value) (ms : List α) (hx : a.eval x = vx) (hxs : SlAt enc w vx ms)
    (hbytes : (l.length + ms.length) * bytes ≤ 140737488355328) (h63 : l.length + ms.length ≤ 9223372036854775807) (hbase : base ≤ w.heap.size)
    (h : ∀ v' w', Owns enc k base e w' v' (l ++ ms) → w.grownBy w' v.ownBlock → (v'.ownBlock = v.ownBlock ∨ ∀ g, v'.ownBlock = some g → w.heap.size ≤ g) → w.drawn ≤ w'.drawn → K (a.put o.dst v') w') :
    if Region.wanted o (yielded ops a.tmps) = true then Oper.wp P o a w K Q else E := by
  have hw : Region.wanted o (yielded ops a.tmps) = true := by simp [Region.wanted, hgd]
  rw [if_pos hw]
  obtain ⟨i, hi, hz, hsize, hby⟩ := info_parts hinfo
  obtain ⟨oa, cap, rfl, hcap, hn, hc⟩ := hxs
  cases oa with
  | none =>
    obtain rfl := hn rfl
    obtain rfl : ms = [] := List.eq_nil_of_length_eq_zero (by omega)
    have hrun := run_append_owned_none (P := P) (w := w) base t o.type e i k ht hi v l.length (l.flatMap enc) hown
    unfold Oper.wp
    simp [execOp, ho, resolve, invoke, builtin, hs, hx, hrun, Result.andThen]
    exact h v w (by rw [List.append_nil]; exact hown) (World.grownBy.refl w _) (.inl rfl) (Nat.le_refl _)
  | some aa =>
    obtain ⟨v', w', hr, h2, h3, h4⟩ := run_append_own2 (P := P) w base t o.type e i z k bytes ht hi hz hsize hby hzs k0 v l.length (l.flatMap enc) hown aa ms.length cap (ms.flatMap enc) (flat_len enc k hk ms)
      (fun j u hu => hc aa rfl j u hu) (fun u hu => by obtain ⟨y, _, hy⟩ := List.mem_flatMap.1 hu; exact h1 y u hy) (by simp only [maxLen]; omega) hbytes hbase
    have hdr := run_append_drawn (P := P) w base t o.type e i z k bytes ht hi hz hsize hby hzs k0 v l.length (l.flatMap enc) hown aa ms.length cap (ms.flatMap enc) (flat_len enc k hk ms)
      (fun j u hu => hc aa rfl j u hu) (fun u hu => by obtain ⟨y, _, hy⟩ := List.mem_flatMap.1 hu; exact h1 y u hy) (by simp only [maxLen]; omega) hbytes v' w' hr
    unfold Oper.wp execOp
    simp only [ho, resolve, invoke, builtin, Sem.run_bind, Sem.run_pure, Result.andThen_ok, List.map_toArray, List.map_cons, List.map_nil, hs, hx, hr]
    exact h v' w' (by unfold Owns; rw [List.length_append, List.flatMap_append]; exact h2) h3 h4 hdr

/-- w' lies on top of w: all that lay in w lies unturned, the draws went on -/
structure Onto (w w' : World) : Prop where
  below : Below w.heap.size w w'
  drawn : w.drawn ≤ w'.drawn
theorem Onto.refl (w : World) : Onto w w := ⟨Below.refl _ _, Nat.le_refl _⟩
theorem Onto.trans {a b c : World} (h : Onto a b) (k : Onto b c) : Onto a c := ⟨h.below.trans (k.below.mono h.below.size), Nat.le_trans h.drawn k.drawn⟩
theorem Onto.drew {a b : World} (h : Onto a b) : Onto a b.drew := ⟨below_drew h.below, Nat.le_succ_of_le h.drawn⟩
theorem Onto.alloc {a b : World} (h : Onto a b) (o : Obj) : Onto a (b.alloc o) := ⟨h.below.alloc h.below.size o, h.drawn⟩
theorem Onto.setCell {a b : World} (h : Onto a b) {p : Addr} (hp : a.heap.size ≤ p.block) (u : Value) : Onto a (b.setCell p u) := ⟨h.below.setCell hp u, h.drawn⟩
theorem Onto.grown {a b c : World} (h : Onto a b) {row : Option Nat} (hg : b.grownBy c row) (hr : ∀ k, row = some k → a.heap.size ≤ k) (hd : b.drawn ≤ c.drawn) : Onto a c := ⟨h.below.grown hg h.below.size hr, Nat.le_trans h.drawn hd⟩
theorem Onto.drewN {a b : World} (h : Onto a b) (n : Nat) : Onto a (b.drewN n) := ⟨h.below.trans ⟨rfl, rfl, rfl, Nat.le_refl _, fun _ _ => rfl⟩, Nat.le_trans h.drawn (Nat.le_add_right _ _)⟩
theorem Onto.grow {a b : World} (h : Onto a b) (n : Nat) (os : Array Obj) : Onto a (Go.Sort.grow (b.drewN n) os) :=
  ⟨h.below.trans ⟨rfl, rfl, rfl, by simp, fun k hk => Go.Sort.heap_grow_old _ os (Nat.lt_of_lt_of_le hk h.below.size)⟩, Nat.le_trans h.drawn (Nat.le_add_right _ _)⟩
theorem Onto.grew {w w' : World} (h : Onto w w') : ∃ n os, w' = Go.Sort.grow (w.drewN n) os := by
  refine ⟨w'.drawn - w.drawn, w'.heap.extract w.heap.size w'.heap.size, ?_⟩
  have hb := h.below
  have e : w'.heap = w.heap ++ w'.heap.extract w.heap.size w'.heap.size := by
    apply Array.ext_getElem?
    intro k
    by_cases hk : k < w.heap.size
    · rw [Array.getElem?_append_left hk]
      exact hb.block k hk
    · rw [Array.getElem?_append_right (by omega), Array.getElem?_extract]
      by_cases hk2 : k < w'.heap.size
      · rw [if_pos (by omega)]
        congr 1
        omega
      · rw [if_neg (by omega), Array.getElem?_eq_none (by omega)]
  obtain ⟨hp, tp, dr, os', out⟩ := w'
  simp only [Go.Sort.grow, World.drewN] at *
  rw [← e]
  have h1 := hb.os
  have h2 := hb.tape
  have h3 := hb.output
  have h4 := h.drawn
  simp only at h1 h2 h3 h4
  subst h1 h2 h3
  congr 1
  omega
theorem slAt_slice {α : Type} {enc : α → List Value} {w : World} {v : Value} {l : List α} (h : SlAt enc w v l) : ∃ oa cap, v = .slice oa l.length cap := by
  obtain ⟨oa, cap, hv, _⟩ := h.slice_of
  exact ⟨oa, cap, hv⟩
end Go.Proofs.Ytkdjfoehpioghaa
