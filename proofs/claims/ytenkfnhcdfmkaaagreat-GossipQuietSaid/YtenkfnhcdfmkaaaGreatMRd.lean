/-
  Readings: when a Go slice value reads as a list of elements (each of k cells), how a reading lives on in later worlds, and the append onto a row of one's own. No function of the program is entered.
  Readings and rows, for any seat: literals, beginnings and parts of slices, cells behind stores, append with the count of draws, and worlds that lie on top of another one.
  What is known of nodes, plainly: words, which of two counts more, who is there. No program in sight.
-/
import Derived.Test.YtenkfnhcdfmkaaaGreatProg
import Derived.WalkKit
import Derived.Handy
import Derived.Lib.Hide
import Derived.Laws.AppendOwnNone
import Derived.Deep.LoopGhost
import Derived.Deep.RegionLaw
import Derived.Sort.Grow
import Derived.Deep.Draws
namespace Go.Proofs.YtenkfnhcdfmkaaaGreat
open Go.RowKit
set_option linter.unusedVariables false
section
variable {α : Type}
theorem flat_at (enc : α → List Value) (k : Nat) (hk : ∀ x, (enc x).length = k) : ∀ (l : List α) (i c : Nat) (h : i < l.length), c < k → (l.flatMap enc)[i * k + c]? = (enc l[i])[c]?
 | [], i, c, h, _ => absurd h (by simp)
 | x :: l, 0, c, h, hc => by
  rw [List.flatMap_cons, Nat.zero_mul, Nat.zero_add, List.getElem?_append_left (by rw [hk]; exact hc)]; rfl
 | x :: l, i + 1, c, h, hc => by
  have ih := flat_at enc k hk l i c (by simpa using h) hc
  rw [List.flatMap_cons, List.getElem?_append_right (by rw [hk, Nat.add_mul]; omega), hk, show (i + 1) * k + c - k = i * k + c by rw [Nat.add_mul]; omega, ih]; rfl
theorem flat_len (enc : α → List Value) (k : Nat) (hk : ∀ x, (enc x).length = k) : ∀ (l : List α), (l.flatMap enc).length = l.length * k
 | [] => by simp
 | x :: l => by rw [List.flatMap_cons, List.length_append, flat_len enc k hk l, hk, List.length_cons, Nat.add_mul]; omega
def SlAt (enc : α → List Value) (w : World) (v : Value) (l : List α) : Prop :=
 ∃ oa cap, v = .slice oa l.length cap ∧ l.length ≤ cap ∧ (oa = none → cap = 0) ∧ ∀ a, oa = some a → ∀ j u, (l.flatMap enc)[j]? = some u → w.cell? (a.add j) = some u
theorem SlAt.nil (enc : α → List Value) (w : World) : SlAt enc w (.slice none 0 0) [] := ⟨none, 0, rfl, Nat.le_refl _, fun _ => rfl, fun _ h => nomatch h⟩
theorem Addr.add_block (a : Addr) (j : Nat) : (a.add j).block = a.block := by unfold Addr.add; split <;> rfl
theorem SlAt.lt {enc : α → List Value} {k : Nat} (hk : ∀ x, (enc x).length = k) (k0 : 0 < k) {w : World} {v : Value} {l : List α} (h : SlAt enc w v l) (hl : l ≠ []) : ∀ b, v.ownBlock = some b → b < w.heap.size := by
 intro b hb
 obtain ⟨oa, cap, rfl, _, _, hc⟩ := h
 cases oa with
 | none => simp [Value.ownBlock] at hb
 | some a =>
  simp [Value.ownBlock] at hb
  subst hb
  have hlen := flat_len enc k hk l
  have h0 : 0 < (l.flatMap enc).length := by rw [hlen]; exact Nat.mul_pos (List.length_pos_iff.2 hl) k0
  have := World.block_lt_of_cell? w _ (hc a rfl 0 _ (List.getElem?_eq_getElem h0))
  rwa [Addr.add_block] at this
theorem SlAt.keep {enc : α → List Value} {w w' : World} {v : Value} {l : List α} (h : SlAt enc w v l) (hb : l = [] ∨ ∀ b, v.ownBlock = some b → w'.heap[b]? = w.heap[b]?) : SlAt enc w' v l := by
 obtain ⟨oa, cap, hv, hcap, hn, hc⟩ := h
 refine ⟨oa, cap, hv, hcap, hn, fun a ha j u hu => ?_⟩
 rcases hb with rfl | hb
 ·simp at hu
 ·have := hb a.block (by rw [hv, ha]; rfl)
  exact (World.cell?_of_block (w := w) (w' := w') (a := a.add j) (by rw [Addr.add_block]; exact this)).trans (hc a ha j u hu)
theorem SlAt.below {enc : α → List Value} {k : Nat} (hk : ∀ x, (enc x).length = k) (k0 : 0 < k) {w w' : World} {v : Value} {l : List α} {B : Nat} (h : SlAt enc w v l) (hb : Below B w w') (hB : w.heap.size ≤ B) : SlAt enc w' v l := by
 refine h.keep ?_
 by_cases hl : l = []
 ·exact .inl hl
 ·exact .inr fun b e => hb.block b (Nat.lt_of_lt_of_le (h.lt hk k0 hl b e) hB)
theorem SlAt.grown {enc : α → List Value} {k : Nat} (hk : ∀ x, (enc x).length = k) (k0 : 0 < k) {w w' : World} {v : Value} {l : List α} {row : Option Nat} (h : SlAt enc w v l) (hg : w.grownBy w' row) (hr : l = [] ∨ v.ownBlock ≠ row) : SlAt enc w' v l := by
 refine h.keep ?_
 by_cases hl : l = []
 ·exact .inl hl
 ·refine .inr fun b e => hg.block b (h.lt hk k0 hl b e) ?_
  rw [← e]; exact hr.resolve_left hl
theorem SlAt.cell {enc : α → List Value} {k : Nat} (hk : ∀ x, (enc x).length = k) {w : World} {b off n cap : Nat} {l : List α} (h : SlAt enc w (.slice (some ⟨b, off, none⟩) n cap) l) {i c : Nat} (hi : i < l.length) (hc : c < k) : w.cell? ⟨b, off + (i * k + c), none⟩ = (enc l[i])[c]? := by
 obtain ⟨oa, cap', hv, _, _, hh⟩ := h
 simp only [Value.slice.injEq] at hv
 obtain ⟨rfl, _, _⟩ := hv
 have hf := flat_at enc k hk l i c hi hc
 have : c < (enc l[i]).length := by rw [hk]; exact hc
 rw [List.getElem?_eq_getElem this] at hf ⊢
 have := hh _ rfl _ _ hf
 rwa [Addr.add_lit] at this
theorem SlAt.slice_of {enc : α → List Value} {w : World} {v : Value} {l : List α} (h : SlAt enc w v l) : ∃ oa cap, v = .slice oa l.length cap ∧ l.length ≤ cap := by
 obtain ⟨oa, cap, hv, hc, _⟩ := h
 exact ⟨oa, cap, hv, hc⟩
theorem SlAt.plain {enc : α → List Value} {k : Nat} (hk : ∀ x, (enc x).length = k) (k0 : 0 < k) {w : World} {oa : Option Addr} {n cap : Nat} {l : List α} (h : SlAt enc w (.slice oa n cap) l) (hl : l ≠ []) : ∃ b off, oa = .some ⟨b, off, none⟩ := by
 obtain ⟨oa', cap', hv, hcap, hn, hc⟩ := h
 simp only [Value.slice.injEq] at hv
 obtain ⟨rfl, _, _⟩ := hv
 cases oa with
 | none =>
  have := hn rfl
  exact absurd (List.eq_nil_of_length_eq_zero (by omega)) hl
 | some a =>
  obtain ⟨b, off, sp⟩ := a
  have hlen := flat_len enc k hk l
  have h0 : 0 < (l.flatMap enc).length := by rw [hlen]; exact Nat.mul_pos (List.length_pos_iff.2 hl) k0
  have h1 := hc _ rfl 0 _ (List.getElem?_eq_getElem h0)
  rw [show (Addr.add ⟨b, off, sp⟩ 0) = ⟨b, off, sp⟩ from rfl] at h1
  cases sp with
  | none => exact ⟨b, off, rfl⟩
  | some s =>
   unfold World.cell? at h1
   split at h1 <;> simp at h1
theorem SlAt.lay {enc : α → List Value} {w : World} {b off cap : Nat} {l : List α} (hcap : l.length ≤ cap) (hc : ∀ j u, (l.flatMap enc)[j]? = .some u → w.cell? ⟨b, off + j, none⟩ = .some u) : SlAt enc w (.slice (.some ⟨b, off, none⟩) l.length cap) l :=
 ⟨_, cap, rfl, hcap, fun h => (nomatch h), fun a ha j u hu => by cases ha; rw [Addr.add_lit]; exact hc j u hu⟩
def Owns (enc : α → List Value) (k base e : Nat) (w : World) (v : Value) (l : List α) : Prop := w.ownsRow base e k v l.length (l.flatMap enc)
theorem Owns.at {enc : α → List Value} {k base e : Nat} {w : World} {v : Value} {l : List α} (h : Owns enc k base e w v l) : SlAt enc w v l := by
 rcases h.2 with ⟨hv, hn⟩ | ⟨g, cap, cur, hv, hb, hh, hc, hm, hs, ht⟩
 ·obtain rfl := List.eq_nil_of_length_eq_zero hn
  rw [hv]; exact SlAt.nil _ _
 ·rw [hv]
  refine SlAt.lay hc fun j u hu => ?_
  have := World.ownsRow.cells h (g := g) (by rw [hv]; rfl) j u hu
  simpa [Addr.add_lit] using this
theorem Owns.nil (enc : α → List Value) (k base e : Nat) (w : World) : Owns enc k base e w (.slice none 0 0) [] := World.ownsRow_nil w base e k
theorem Owns.lt {enc : α → List Value} {k base e : Nat} {w : World} {v : Value} {l : List α} (h : Owns enc k base e w v l) : ∀ g, v.ownBlock = some g → base ≤ g ∧ g < w.heap.size := World.ownsRow.lt h
theorem Owns.kept {enc : α → List Value} {k base e : Nat} {w w' : World} {v : Value} {l : List α} {row : Option Nat} (h : Owns enc k base e w v l) (hg : w.grownBy w' row) (hne : v.ownBlock = none ∨ v.ownBlock ≠ row) : Owns enc k base e w' v l := World.ownsRow.kept h hg hne
theorem Owns.below {enc : α → List Value} {k base e : Nat} {w w' : World} {v : Value} {l : List α} {B : Nat} (h : Owns enc k base e w v l) (hb : Below B w w') (hB : w.heap.size ≤ B) : Owns enc k base e w' v l := by
 refine ⟨h.1, ?_⟩
 rcases h.2 with hn | ⟨g, cap, cur, rfl, hbg, hgg, rest⟩
 ·exact .inl hn
 ·exact .inr ⟨g, cap, cur, rfl, hbg, (hb.block g (Nat.lt_of_lt_of_le (Array.getElem?_eq_some_iff.1 hgg).1 hB)).trans hgg, rest⟩
theorem Owns.keep {enc : α → List Value} {k base e : Nat} {w w' : World} {v : Value} {l : List α} (h : Owns enc k base e w v l) (hb : ∀ g, v.ownBlock = some g → w'.heap[g]? = w.heap[g]?) : Owns enc k base e w' v l := by
 refine ⟨h.1, ?_⟩
 rcases h.2 with hn | ⟨g, cap, cur, rfl, hbg, hgg, rest⟩
 ·exact .inl hn
 ·exact .inr ⟨g, cap, cur, rfl, hbg, (hb g rfl).trans hgg, rest⟩
end
theorem run_append_own2 {P : Program} (w : World) (base : Nat) (t ty e : TypeId) (i : TypeInfo) (z : Value) (size bytes : Nat) (ht : P.underlying t = some (.slice e)) (hi : P.info? e = some i) (hz : i.zero = some z)
  (hsize : i.size = size) (hby : i.bytes = bytes) (hzs : z.cells.size = size) (hsz : 0 < size)
  (v : Value) (n : Nat) (xs : List Value) (hown : w.ownsRow base e size v n xs)
  (a : Addr) (m c : Nat) (news : List Value) (hl : news.length = m * size) (hnews : ∀ j u, news[j]? = some u → w.cell? (a.add j) = some u) (h1 : ∀ u ∈ news, u.oneCell' = true)
  (h63 : n + m ≤ maxLen) (hbytes : (n + m) * bytes ≤ 140737488355328) (hbase : base ≤ w.heap.size) :
  ∃ v' w', (Builtin.append_ #[t, t] ty #[v, .slice (some a) m c]).run P w = .ok v' w' ∧ w'.ownsRow base e size v' (n + m) (xs ++ news) ∧ w.grownBy w' v.ownBlock ∧
   (v'.ownBlock = v.ownBlock ∨ ∀ g, v'.ownBlock = some g → w.heap.size ≤ g) := by
 obtain ⟨v', w', hr, ho, hg, hn⟩ := run_append_own (P := P) w base t ty e i z size bytes ht hi hz hsize hby hzs hsz v n xs hown a m c news hl hnews h1 h63 hbytes hbase
 refine ⟨v', w', hr, ho, hg, ?_⟩
 rcases hown.2 with ⟨rfl, rfl⟩ | ⟨g, cap, cur, rfl, hbg, hgg, hnc, hcm, hcs, htake⟩
 ·have hx : xs = [] := List.eq_nil_of_length_eq_zero (by simpa using hown.1)
  subst hx
  obtain ⟨v2, w2, hr2, ho2, hg2, _⟩ := run_append_own (P := P) w w.heap.size t ty e i z size bytes ht hi hz hsize hby hzs hsz (.slice none 0 0) 0 [] (World.ownsRow_nil w _ e size) a m c news hl hnews h1 h63 hbytes (Nat.le_refl _)
  rw [hr] at hr2
  cases hr2
  exact .inr fun g hgv => (ho2.lt g hgv).1
 ·by_cases hroom : n + m ≤ cap
  ·subst hsize
   have hfit : n * i.size + news.length ≤ cur.size := by rw [hl, hcs, ← Nat.add_mul]; exact Nat.mul_le_mul_right _ hroom
   have hr2 := run_append_room (P := P) w t ty e i ht hi g n cap cur hgg a m c news hl hnews h1 hroom hfit
   rw [hr] at hr2
   cases hr2
   exact .inl rfl
  ·subst hsize
   subst hby
   have hsmall : n + m ≤ 9223372036854775807 := by simp only [maxLen] at h63; omega
   have holds : ∀ j u, xs[j]? = some u → w.cell? ((⟨g, 0, none⟩ : Addr).add j) = some u := hown.cells (g := g) rfl
   have hr2 := run_append_grow (P := P) w t ty e i z ht hi hz ⟨g, 0, none⟩ n cap xs hown.1 holds a m c news hl hnews (by omega) (by omega) (growslice_fits (by omega) hbytes)
   rw [hr] at hr2
   cases hr2
   refine .inr fun g' hg' => ?_
   simp [Value.ownBlock] at hg'
   omega
theorem wpList_app {α : Type} {P : Program} (enc : α → List Value) (k : Nat) (hk : ∀ x, (enc x).length = k) (k0 : 0 < k) (h1 : ∀ x, ∀ v ∈ enc x, v.oneCell' = true)
  (w : World) {ops : Array Oper} {rest : List Oper} {o : Oper} {a : Act} {Q : Exit → Act → World → Prop} (hgd : o.guard = none) (s x : Operand) (t : TypeId)
  (ho : o.op = .call { callee := .builtin .append, args := #[s, x], argTypes := #[t, t] })
  (base : Nat) (e : TypeId) (z : Value) (bytes : Nat) (ht : P.underlying t = some (.slice e)) (hinfo : (P.info? e).map (fun i => (i.zero, i.size, i.bytes)) = some (some z, k, bytes)) (hzs : z.cells.size = k)
  (v : Value) (l : List α) (hs : a.eval s = v) (hown : Owns enc k base e w v l)
  (vx : Value) (ms : List α) (hx : a.eval x = vx) (hxs : SlAt enc w vx ms)
  (hbytes : (l.length + ms.length) * bytes ≤ 140737488355328) (h63 : l.length + ms.length ≤ 9223372036854775807) (hbase : base ≤ w.heap.size)
  (h : ∀ v' w', Owns enc k base e w' v' (l ++ ms) → w.grownBy w' v.ownBlock → (v'.ownBlock = v.ownBlock ∨ ∀ g, v'.ownBlock = some g → w.heap.size ≤ g) → wpList P ops Q rest (a.put o.dst v') w') : wpList P ops Q (o :: rest) a w := by
 obtain ⟨i, hi, hz, hsize, hby⟩ := info_parts hinfo
 obtain ⟨oa, cap, rfl, hcap, hn, hc⟩ := hxs
 cases oa with
 | none =>
  obtain rfl := hn rfl
  obtain rfl : ms = [] := List.eq_nil_of_length_eq_zero (by omega)
  refine wpList_append_own_none (P := P) hgd s x t ho base e i k ht hi v l.length (l.flatMap enc) hs hown hx ?_
  exact h v w (by rw [List.append_nil]; exact hown) (World.grownBy.refl w _) (.inl rfl)
 | some aa =>
  refine wpList_plain hgd fun K hK => ?_
  obtain ⟨v', w', hr, h2, h3, h4⟩ := run_append_own2 (P := P) w base t o.type e i z k bytes ht hi hz hsize hby hzs k0 v l.length (l.flatMap enc) hown aa ms.length cap (ms.flatMap enc) (flat_len enc k hk ms)
   (fun j u hu => hc aa rfl j u hu) (fun u hu => by obtain ⟨y, _, hy⟩ := List.mem_flatMap.1 hu; exact h1 y u hy) (by simp only [maxLen]; omega) hbytes hbase
  unfold Oper.wp execOp
  simp only [ho, resolve, invoke, builtin, Sem.run_bind, Sem.run_pure, Result.andThen_ok, List.map_toArray, List.map_cons, List.map_nil, hs, hx, hr]
  exact hK _ _ (h v' w' (by unfold Owns; rw [List.length_append, List.flatMap_append]; exact h2) h3 h4)
end Go.Proofs.YtenkfnhcdfmkaaaGreat
namespace Go.Proofs.YtenkfnhcdfmkaaaGreat
open Go.RowKit
set_option linter.unusedVariables false
theorem slAt_new {α : Type} {enc : α → List Value} (W : World) (cs : Array Value) (e n cap : Nat) (fr : Nat × Nat) (l : List α) (hc : cs.toList = l.flatMap enc) (hn : n = l.length) (hcap : n ≤ cap) : SlAt enc (W.alloc (.cells cs e fr)) (.slice (some ⟨W.heap.size, 0, none⟩) n cap) l := by
 subst hn
 refine SlAt.lay hcap fun j u hu => ?_
 rw [Nat.zero_add, cell_of_row _ W.heap.size j cs e fr (heap_alloc_new W _), ← Array.getElem?_toList, hc]
 exact hu
theorem Owns.lower {α : Type} {enc : α → List Value} {k base base' e : Nat} {w : World} {v : Value} {l : List α} (h : Owns enc k base e w v l) (hb : base' ≤ base) : Owns enc k base' e w v l := by
 refine ⟨h.1, ?_⟩
 rcases h.2 with hn | ⟨g, cap, cur, rfl, hbg, rest⟩
 ·exact .inl hn
 ·exact .inr ⟨g, cap, cur, rfl, Nat.le_trans hb hbg, rest⟩
theorem cell_set (W : World) (b o b' o' : Nat) (v : Value) : (W.setCell ⟨b, o, none⟩ v).cell? ⟨b', o', none⟩ = if b = b' ∧ o = o' then (W.cell? ⟨b', o', none⟩).map (fun _ => v) else W.cell? ⟨b', o', none⟩ := by
 simp only [World.setCell, World.cell?, Array.getElem?_modify]
 by_cases hb : b = b'
 ·subst hb
  rw [if_pos rfl]
  cases h : W.heap[b]? with
  | none => simp
  | some x =>
   cases x with
   | cells c e fr =>
    by_cases ho : o = o'
    ·subst ho
     simp only [Option.map_some, Option.isSome_none, Bool.false_eq_true, if_false, and_self, if_true]
     by_cases hlt : o < c.size
     ·simp [hlt]
     ·simp [hlt]
    ·simp [ho]
   | _ => simp
 ·rw [if_neg hb, if_neg (fun h => hb h.1)]
theorem below_drewN (w : World) (n : Nat) : RowKit.Below w.heap.size w (w.drewN n) := ⟨rfl, rfl, rfl, Nat.le_refl _, fun _ _ => rfl⟩
theorem below_drew {B : Nat} {w w' : World} (h : RowKit.Below B w w') : RowKit.Below B w w'.drew := h.trans ⟨rfl, rfl, rfl, Nat.le_refl _, fun _ _ => rfl⟩
theorem flat_take {α : Type} (enc : α → List Value) (k : Nat) (hk : ∀ x, (enc x).length = k) : ∀ (l : List α) (n : Nat), (l.take n).flatMap enc = (l.flatMap enc).take (n * k)
 | [], n => by simp
 | x :: l, 0 => by simp
 | x :: l, n + 1 => by
  rw [List.take_succ_cons, List.flatMap_cons, List.flatMap_cons, flat_take enc k hk l n, List.take_append, hk, show (n + 1) * k - k = n * k by rw [Nat.add_mul]; omega, List.take_of_length_le (l := enc x) (by rw [hk, Nat.add_mul]; omega)]
theorem flat_drop {α : Type} (enc : α → List Value) (k : Nat) (hk : ∀ x, (enc x).length = k) : ∀ (l : List α) (n : Nat), (l.drop n).flatMap enc = (l.flatMap enc).drop (n * k)
 | [], n => by simp
 | x :: l, 0 => by simp
 | x :: l, n + 1 => by
  rw [List.drop_succ_cons, List.flatMap_cons, flat_drop enc k hk l n, List.drop_append, hk, show (n + 1) * k - k = n * k by rw [Nat.add_mul]; omega, (List.drop_eq_nil_of_le (by rw [hk, Nat.add_mul]; omega) : (enc x).drop ((n + 1) * k) = []), List.nil_append]
theorem SlAt.sub {α : Type} {enc : α → List Value} {k : Nat} (hk : ∀ x, (enc x).length = k) (k0 : 0 < k) {w : World} {oa : Option Addr} {n cap : Nat} {l : List α} (h : SlAt enc w (.slice oa n cap) l) (lo hi : Nat) (h1 : lo ≤ hi) (h2 : hi ≤ l.length) :
  SlAt enc w (sliced oa lo hi cap k) ((l.take hi).drop lo) := by
 have hpl := fun hl => h.plain hk k0 hl
 obtain ⟨oa', cap', hv, hcap, hn, hc⟩ := h
 simp only [Value.slice.injEq] at hv
 obtain ⟨rfl, rfl, rfl⟩ := hv
 have hlen : ((l.take hi).drop lo).length = hi - lo := by rw [List.length_drop, List.length_take]; omega
 unfold sliced
 by_cases hm : cap = lo
 ·rw [if_pos hm]
  have hnil : (l.take hi).drop lo = [] := List.eq_nil_of_length_eq_zero (by omega)
  rw [hnil]
  refine ⟨oa, cap - lo, ?_, Nat.zero_le _, fun _ => by omega, fun a _ j u hu => by simp at hu⟩
  rw [show hi - lo = 0 by omega]
  rfl
 ·rw [if_neg hm]
  refine ⟨_, cap - lo, by rw [hlen], by omega, fun hno => ?_, fun a ha j u hu => ?_⟩
  ·have : oa = none := by cases oa <;> simp_all
   have := hn this
   omega
  ·have hl : l ≠ [] := by
    rintro rfl
    simp at hu
   obtain ⟨b, off, rfl⟩ := hpl hl
   simp only [Option.map_some, Option.some.injEq, Addr.add_lit] at ha
   subst ha
   rw [Addr.add_lit]
   rw [flat_drop enc k hk, flat_take enc k hk, List.getElem?_drop] at hu
   have h3 : (l.flatMap enc)[lo * k + j]? = some u := by
    rw [List.getElem?_take] at hu
    split at hu
    ·exact hu
    ·simp at hu
   have := hc _ rfl _ u h3
   rwa [Addr.add_lit, ← Nat.add_assoc] at this
theorem Owns.take {α : Type} {enc : α → List Value} {k base e : Nat} (hk : ∀ x, (enc x).length = k) {w : World} {oa : Option Addr} {n cap : Nat} {l : List α} (h : Owns enc k base e w (.slice oa n cap) l) (m : Nat) (hm : m ≤ l.length) : Owns enc k base e w (.slice oa m cap) (l.take m) := by
 have hl : (l.take m).length = m := by rw [List.length_take]; omega
 refine ⟨by rw [flat_len enc k hk], ?_⟩
 rcases h.2 with ⟨hv, hn⟩ | ⟨g, cap', cur, hv, hb, hh, hc, hmx, hs, ht⟩
 ·simp only [Value.slice.injEq] at hv
  obtain ⟨rfl, rfl, rfl⟩ := hv
  obtain rfl : m = 0 := by omega
  exact .inl ⟨rfl, by simp⟩
 ·simp only [Value.slice.injEq] at hv
  obtain ⟨rfl, rfl, rfl⟩ := hv
  refine .inr ⟨g, cap, cur, by rw [hl], hb, hh, by rw [hl]; omega, hmx, hs, ?_⟩
  have e1 : (l.take m).flatMap enc = (l.flatMap enc).take (m * k) := by
   have e2 : l.flatMap enc = (l.take m).flatMap enc ++ (l.drop m).flatMap enc := by rw [← List.flatMap_append, List.take_append_drop]
   rw [e2]
   exact (List.take_left' (by rw [flat_len enc k hk, hl])).symm
  rw [e1, ← ht, List.take_take, hl]
  congr 1
  exact (Nat.min_eq_left (Nat.mul_le_mul_right _ hm)).symm
theorem slAt_slice {α : Type} {enc : α → List Value} {w : World} {v : Value} {l : List α} (h : SlAt enc w v l) : ∃ oa cap, v = .slice oa l.length cap := by
 obtain ⟨oa, cap, hv, _⟩ := h.slice_of
 exact ⟨oa, cap, hv⟩
end Go.Proofs.YtenkfnhcdfmkaaaGreat
namespace Go.Proofs.YtenkfnhcdfmkaaaGreat
open Go.RowKit Go.Lib
set_option linter.unusedVariables false
structure Wd where
 st : Int
 inc : Int
deriving DecidableEq
structure Mb where
 node : Int
 st : Int
 inc : Int
deriving DecidableEq
def Mb.cells (m : Mb) : List Value := [.int .i64 m.node, .int .i64 m.st, .int .i64 m.inc]
theorem Mb.cells_len (m : Mb) : m.cells.length = 3 := rfl
theorem Mb.cells_one (m : Mb) : ∀ v ∈ m.cells, v.oneCell' = true := by intro v hv; simp [Mb.cells] at hv; rcases hv with rfl | rfl | rfl <;> rfl
def Mb.may (m : Mb) : Prop := 0 ≤ m.node ∧ m.node ≤ 7 ∧ 1 ≤ m.st ∧ m.st ≤ 4 ∧ 0 ≤ m.inc ∧ m.inc ≤ 1099511627776
instance Mb.decMay (m : Mb) : Decidable m.may := by unfold Mb.may; infer_instance
def Wd.beats (a b : Wd) : Prop := b.inc < a.inc ∨ (a.inc = b.inc ∧ b.st < a.st)
instance Wd.decBeats (a b : Wd) : Decidable (a.beats b) := by unfold Wd.beats; infer_instance
end Go.Proofs.YtenkfnhcdfmkaaaGreat
