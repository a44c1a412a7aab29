/-
  How arguments with slices are opened: dots, events, slices of both, in this text's own words (EvsAt), with the bounds of the form's reach. No function of the program is entered.
  How a play of a gossip is opened. No function of the program is entered.
-/
import Derived.Test.YtenkfnhcdfmkaaaGreatMOpen
import Derived.SizedLaws
import Derived.DataElems
import Derived.Test.YtenkfnhcdfmkaaaGreatGreat22
namespace Go.Proofs.YtenkfnhcdfmkaaaGreat
open Go.ChangeShapes Go.WideShapes Go.ChangeAt Go.RowKit
set_option linter.unusedVariables false
set_option maxRecDepth 100000
section
variable {H : Type} {enc : TypeId × Value → H} {w : World} {base : Nat} {spare : Nat → Bool} {held : Bool}
def Within (t : TypeId) (d : DataW H) : Prop := ∀ n ∈ d.weights Tryz.prog t, n ≤ reachBytes
theorem within_arg {ts : List TypeId} {ds : List (DataW H)} (h : (DataW.weightsEach Tryz.prog ts ds).all (· ≤ reachBytes) = true) (j : Nat) {t : TypeId} {d : DataW H} (ht : ts[j]? = some t) (hd : ds[j]? = some d) : Within t d :=
 fun n hn => by simpa using List.all_eq_true.1 h _ (DataW.weights_mem_each ht hd n hn)
theorem within_mem {e : TypeId} : ∀ {l : List (DataW H)} {d : DataW H}, d ∈ l → ∀ n ∈ d.weights Tryz.prog e, n ∈ DataW.weightsAll Tryz.prog e l
 | d0 :: l, d, hd, n, hn => by
  simp only [DataW.weightsAll, List.mem_append]
  rcases List.mem_cons.1 hd with rfl | hd
  ·exact .inl hn
  ·exact .inr (within_mem hd n hn)
theorem within_slice {t e : TypeId} {elems rest : List (DataW H)} (hu : Tryz.prog.underlying t = some (.slice e)) (h : Within t (.slice elems rest)) : (elems.length + rest.length) * Tryz.prog.bytesOf e ≤ reachBytes ∧ ∀ d ∈ elems, Within e d := by
 unfold Within at h
 simp only [DataW.weights, hu, List.mem_cons, List.mem_append] at h
 exact ⟨h _ (.inl rfl), fun d hd n hn => h n (.inr (.inl (within_mem hd n hn)))⟩
theorem within_fld {t : TypeId} {fs : Array Field} {parts : List (DataW H)} (hu : Tryz.prog.underlying t = some (.struct fs)) (h : Within t (.agg parts)) (j : Nat) {f : Field} (hf : (fs.toList.map (·.type))[j]? = some f.type) {d : DataW H} (hd : parts[j]? = some d) : Within f.type d := by
 unfold Within at h
 simp only [DataW.weights, hu] at h
 exact fun n hn => h n (DataW.weights_mem_each hf hd n hn)
theorem pick_all {α : Type} {Q : Nat → α → Prop} : ∀ (n : Nat), (∀ i, i < n → ∃ a, Q i a) → ∃ l : List α, l.length = n ∧ ∀ i (h : i < l.length), Q i l[i]
 | 0, _ => ⟨[], rfl, fun i h => absurd h (by simp)⟩
 | n + 1, h => by
  obtain ⟨l, hl, hq⟩ := pick_all n fun i hi => h i (by omega)
  obtain ⟨a, ha⟩ := h n (by omega)
  refine ⟨l ++ [a], by simp [hl], fun i hi => ?_⟩
  by_cases e : i < l.length
  ·rw [List.getElem_append_left e]; exact hq i e
  ·obtain rfl : i = l.length := by simp at hi; omega
   simp only [List.getElem_concat_length]
   rw [hl]; exact ha
theorem trod_row {α : Type} (enc' : α → List Value) (k : Nat) (hk : ∀ x, (enc' x).length = k) (k0 : 0 < k) {t e : TypeId} (hu : Tryz.prog.underlying t = some (.slice e)) (hc : Tryz.prog.cellsOf e = k) (fit : α → Prop)
  (one : ∀ n cs (x : DataW H × List MemPlace), DataW.trod enc Tryz.prog w base spare held n e cs = some x → Within e x.1 → ∃ a : α, cs = enc' a ∧ fit a)
  {fuel : Nat} {cs : List Value} {x : DataW H × List MemPlace} (h : DataW.trod enc Tryz.prog w base spare held fuel t cs = some x) (hw : Within t x.1) :
  ∃ oa cap l, cs = [.slice oa l.length cap] ∧ SlAt enc' w (.slice oa l.length cap) l ∧ l.length * Tryz.prog.bytesOf e ≤ reachBytes ∧ ∀ a ∈ l, fit a := by
 rcases DataW.trod_slice hu h with ⟨rfl, rfl⟩ | ⟨a, len, cap, elems, rest, n, _, rfl, rfl, _, hlc, _, hel, hat, _, _⟩
 ·exact ⟨none, 0, [], rfl, SlAt.nil _ _, by simp, fun a ha => by cases ha⟩
 ·obtain ⟨hsz, hin⟩ := within_slice hu hw
  rw [hc] at hat
  have hall : ∀ i, i < len → ∃ b : α, (w.cells? base (a.add (i * k)) k) = some (enc' b) ∧ fit b := fun i hi => by
   have h1 := hat i hi
   have hlt : i < elems.length := by omega
   rw [List.getElem?_eq_getElem hlt] at h1
   obtain ⟨cs, hcs, htr⟩ := Option.bind_eq_some_iff.1 h1
   obtain ⟨b, rfl, hb⟩ := one n cs _ htr (hin _ (List.mem_map_of_mem (List.getElem_mem hlt)))
   exact ⟨b, hcs, hb⟩
  obtain ⟨l, hl, hq⟩ := pick_all len hall
  subst hl
  refine ⟨some a, cap, l, rfl, ⟨some a, cap, rfl, hlc, fun h => (nomatch h), fun a' ha' j u hj => ?_⟩, ?_, fun b hb => ?_⟩
  ·cases ha'
   have hjl := (List.getElem?_eq_some_iff.1 hj).1
   rw [flat_len enc' k hk] at hjl
   have hi : j / k < l.length := (Nat.div_lt_iff_lt_mul k0).2 hjl
   have hcc : j % k < k := Nat.mod_lt _ k0
   have hjk : j / k * k + j % k = j := Nat.div_add_mod' j k
   have hf := flat_at enc' k hk l (j / k) (j % k) hi hcc
   rw [hjk, hj] at hf
   have h2 := (World.cells?_some (hq _ hi).1).2.2 (j % k) hcc
   rw [Addr.add_add, hjk, ← hf] at h2
   exact h2
  ·refine Nat.le_trans (Nat.mul_le_mul_right _ ?_) hsz
   rw [List.length_map, hel]; omega
  ·obtain ⟨i, hi, rfl⟩ := List.mem_iff_getElem.1 hb
   exact (hq i hi).2
theorem cellsDot : Tryz.prog.cellsOf 40 = 2 := by kernel_rfl
theorem list2 {l : List Value} (h : l.length = 2) : ∃ a b, l = [a, b] := by
 match l, h with
 | [a, b], _ => exact ⟨a, b, rfl⟩
theorem trod_dot {fuel : Nat} {cs : List Value} {x : DataW H × List MemPlace} (h : DataW.trod enc Tryz.prog w base spare held fuel 40 cs = some x) : ∃ d : Dot, cs = d.cells ∧ d.fits := by
 obtain ⟨xs, n, _, _, hl, hlen, hf⟩ := DataW.trod_struct Tryz.underlying40 h
 rw [cellsDot] at hl
 obtain ⟨c0, c1, rfl⟩ := list2 hl
 have hx : xs.length = 2 := hlen
 obtain ⟨z0, e0, f0⟩ := int_fld (hf 0 _ rfl) 0 rfl rfl (by omega)
 obtain ⟨z1, e1, f1⟩ := int_fld (hf 1 _ rfl) 1 rfl rfl (by omega)
 simp only [List.drop_succ_cons, List.drop_zero, List.take_succ_cons, List.take_zero, List.cons.injEq, and_true] at e0 e1
 subst e0 e1
 exact ⟨⟨z0, z1⟩, rfl, f0, f1⟩
theorem bytesDot : Tryz.prog.bytesOf 40 = 16 := by kernel_rfl
theorem trod_dots {fuel : Nat} {cs : List Value} {x : DataW H × List MemPlace} (h : DataW.trod enc Tryz.prog w base spare held fuel 34 cs = some x) (hw : Within 34 x.1) : ∃ (hd : Hdr) (l : List Dot), cs = [hd.val] ∧ SlAt Dot.cells w hd.val l ∧ l.length ≤ 8796093022208 ∧ ∀ d ∈ l, d.fits := by
 obtain ⟨oa, cap, l, hcs, hl, hb, hf⟩ := trod_row Dot.cells 2 Dot.cells_len (by decide) Tryz.underlying34 cellsDot Dot.fits (fun n cs x h _ => trod_dot h) h hw
 refine ⟨⟨oa, l.length, cap⟩, l, hcs, hl, ?_, hf⟩
 rw [bytesDot] at hb
 unfold reachBytes at hb
 omega
def Ev.fits (e : Ev) : Prop := e.dot.fits ∧ I64 e.time ∧ I64 e.kind ∧ I64 e.work ∧ I64 e.value ∧ e.pol.fits ∧ (∀ d ∈ e.rem, d.fits) ∧ e.rem.length ≤ 8796093022208
theorem cellsEv : Tryz.prog.cellsOf 44 = 14 := by kernel_rfl
theorem list14 {l : List Value} (h : l.length = 14) : ∃ a b c d e f g a1 b1 c1 d1 e1 f1 g1, l = [a, b, c, d, e, f, g, a1, b1, c1, d1, e1, f1, g1] := by
 match l, h with
 | [a, b, c, d, e, f, g, a1, b1, c1, d1, e1, f1, g1], _ => exact ⟨a, b, c, d, e, f, g, a1, b1, c1, d1, e1, f1, g1, rfl⟩
theorem trod_ev {fuel : Nat} {cs : List Value} {x : DataW H × List MemPlace} (h : DataW.trod enc Tryz.prog w base spare held fuel 44 cs = some x) (hw : Within 44 x.1) : ∃ p : PEv, cs = pcells p ∧ SlAt Dot.cells w p.1.val p.2.rem ∧ p.2.fits := by
 obtain ⟨xs, n, _, hxe, hl, hlen, hf⟩ := DataW.trod_struct Tryz.underlying44 h
 rw [cellsEv] at hl
 obtain ⟨c0, c1, c2, c3, c4, c5, c6, c7, c8, c9, c10, c11, c12, c13, rfl⟩ := list14 hl
 have hx : xs.length = 7 := hlen
 obtain ⟨y0, h0⟩ := fld_at (hf 0 _ rfl) 40 2 0 rfl rfl cellsDot (by omega)
 obtain ⟨d0, e0, f0⟩ := trod_dot h0
 obtain ⟨z2, e2, f2⟩ := int_fld (hf 1 _ rfl) 2 rfl rfl (by omega)
 obtain ⟨z3, e3, f3⟩ := int_fld (hf 2 _ rfl) 3 rfl rfl (by omega)
 obtain ⟨z4, e4, f4⟩ := int_fld (hf 3 _ rfl) 4 rfl rfl (by omega)
 obtain ⟨z5, e5, f5⟩ := int_fld (hf 4 _ rfl) 5 rfl rfl (by omega)
 obtain ⟨y6, h6⟩ := fld_at (hf 5 _ rfl) 42 7 6 rfl rfl cellsPol (by omega)
 obtain ⟨p6, e6, f6⟩ := trod_pol h6
 have h13 : DataW.trod enc Tryz.prog w base spare held n 34 [c13] = xs[6]? := hf 6 _ rfl
 have hlt : 6 < xs.length := by omega
 rw [List.getElem?_eq_getElem hlt] at h13
 have hw6 : Within 34 xs[6].1 := by
  rw [hxe] at hw
  exact within_fld Tryz.underlying44 hw 6 rfl (by rw [List.getElem?_map, List.getElem?_eq_getElem hlt]; rfl)
 obtain ⟨hd, ds, e13, s13, l13, f13⟩ := trod_dots h13 hw6
 simp only [List.drop_succ_cons, List.drop_zero, List.take_succ_cons, List.take_zero, List.cons.injEq, and_true, Dot.cells, Pol.cells] at e0 e2 e3 e4 e5 e6 e13
 obtain ⟨rfl, rfl⟩ := e0
 obtain ⟨rfl, rfl, rfl, rfl, rfl, rfl, rfl⟩ := e6
 subst e2 e3 e4 e5 e13
 exact ⟨(hd, ⟨d0, z2, z3, z4, z5, p6, ds⟩), rfl, s13, f0, f2, f3, f4, f5, f6, f13, l13⟩
theorem bytesEv : Tryz.prog.bytesOf 44 = 128 := by kernel_rfl
theorem trod_evs {fuel : Nat} {cs : List Value} {x : DataW H × List MemPlace} (h : DataW.trod enc Tryz.prog w base spare held fuel 35 cs = some x) (hw : Within 35 x.1) : ∃ oa cap ps, cs = [.slice oa ps.length cap] ∧ EvsAt w (.slice oa ps.length cap) ps ∧ ps.length ≤ 1099511627776 ∧ ∀ p ∈ ps, p.2.fits := by
 obtain ⟨oa, cap, l, hcs, hl, hb, hf⟩ := trod_row pcells 14 pcells_len (by decide) Tryz.underlying35 cellsEv (fun p => SlAt Dot.cells w p.1.val p.2.rem ∧ p.2.fits) (fun n cs x h hw => trod_ev h hw) h hw
 refine ⟨oa, cap, l, hcs, ⟨hl, fun p hp => (hf p hp).1⟩, ?_, fun p hp => (hf p hp).2⟩
 rw [bytesEv] at hb
 unfold reachBytes at hb
 omega
end
end Go.Proofs.YtenkfnhcdfmkaaaGreat
namespace Go.Proofs.YtenkfnhcdfmkaaaGreat
open Go.ChangeShapes Go.WideShapes Go.ChangeAt Go.RowKit
set_option linter.unusedVariables false
set_option maxRecDepth 100000
theorem lst3 {l : List Value} (h : l.length = 3) : ∃ a b c, l = [a, b, c] := by
 match l, h with
 | [a, b, c], _ => exact ⟨a, b, c, rfl⟩
theorem lst4 {l : List Value} (h : l.length = 4) : ∃ a b c d, l = [a, b, c, d] := by
 match l, h with
 | [a, b, c, d], _ => exact ⟨a, b, c, d, rfl⟩
section
variable {H : Type} {enc : TypeId × Value → H} {w : World} {base : Nat} {spare : Nat → Bool} {held : Bool}
theorem cellsMem : Tryz.prog.cellsOf 143 = 3 := by kernel_rfl
theorem bytesMem : Tryz.prog.bytesOf 143 = 24 := by kernel_rfl
theorem cellsMsg : Tryz.prog.cellsOf 38 = 16 := by kernel_rfl
theorem cellsGOp : Tryz.prog.cellsOf 46 = 32 := by kernel_rfl
theorem bytesGOp : Tryz.prog.bytesOf 46 = 336 := by kernel_rfl
theorem cellsPlay22 : Tryz.prog.cellsOf 25 = 4 := by kernel_rfl
theorem trod_mem {fuel : Nat} {cs : List Value} {x : DataW H × List MemPlace} (h : DataW.trod enc Tryz.prog w base spare held fuel 143 cs = some x) : ∃ m : Mb, cs = m.cells := by
 obtain ⟨xs, n, _, _, hl, hlen, hf⟩ := DataW.trod_struct Tryz.underlying143 h
 rw [cellsMem] at hl
 obtain ⟨c0, c1, c2, rfl⟩ := lst3 hl
 have hx : xs.length = 3 := hlen
 obtain ⟨z0, e0, _⟩ := int_fld (hf 0 _ rfl) 0 rfl rfl (by omega)
 obtain ⟨z1, e1, _⟩ := int_fld (hf 1 _ rfl) 1 rfl rfl (by omega)
 obtain ⟨z2, e2, _⟩ := int_fld (hf 2 _ rfl) 2 rfl rfl (by omega)
 simp only [List.drop_succ_cons, List.drop_zero, List.take_succ_cons, List.take_zero, List.cons.injEq, and_true] at e0 e1 e2
 subst e0 e1 e2
 exact ⟨⟨z0, z1, z2⟩, rfl⟩
theorem trod_mems {fuel : Nat} {cs : List Value} {x : DataW H × List MemPlace} (h : DataW.trod enc Tryz.prog w base spare held fuel 36 cs = some x) (hw : Within 36 x.1) : ∃ (hd : Hdr) (l : List Mb), cs = [hd.val] ∧ SlAt Mb.cells w hd.val l ∧ l.length ≤ 8796093022208 := by
 obtain ⟨oa, cap, l, hcs, hl, hb, hf⟩ := trod_row Mb.cells 3 Mb.cells_len (by decide) Tryz.underlying36 cellsMem (fun _ => True) (fun n cs x h _ => (trod_mem h).imp fun m e => ⟨e, trivial⟩) h hw
 refine ⟨⟨oa, l.length, cap⟩, l, hcs, hl, ?_⟩
 rw [bytesMem] at hb
 unfold reachBytes at hb
 omega
theorem trod_upto {fuel : Nat} {cs : List Value} {x : DataW H × List MemPlace} (h : DataW.trod enc Tryz.prog w base spare held fuel 33 cs = some x) {c0 c1 c2 c3 c4 c5 c6 c7 : Value} (hcs : cs = [c0, c1, c2, c3, c4, c5, c6, c7]) : ∃ u : Nat → Int, [c0, c1, c2, c3, c4, c5, c6, c7] = [.int .i64 (u 0), .int .i64 (u 1), .int .i64 (u 2), .int .i64 (u 3), .int .i64 (u 4), .int .i64 (u 5), .int .i64 (u 6), .int .i64 (u 7)] := by
 subst hcs
 obtain ⟨ys, m, _, _, _, hyl, hy⟩ := DataW.trod_array Tryz.underlying33 h
 rw [cellsInt] at hy
 have key : ∀ i c (hi : i < 8), (([c0, c1, c2, c3, c4, c5, c6, c7] : List Value).drop (i * 1)).take 1 = [c] → ∃ z : Int, c = .int .i64 z := fun i c hi hc => by
  have h2 := hy i hi
  rw [hc, List.getElem?_eq_getElem (by omega)] at h2
  obtain ⟨z, e, _, _⟩ := DataW.trod_int Tryz.underlying3 h2
  exact ⟨z, by simpa using e⟩
 obtain ⟨z0, rfl⟩ := key 0 c0 (by omega) rfl
 obtain ⟨z1, rfl⟩ := key 1 c1 (by omega) rfl
 obtain ⟨z2, rfl⟩ := key 2 c2 (by omega) rfl
 obtain ⟨z3, rfl⟩ := key 3 c3 (by omega) rfl
 obtain ⟨z4, rfl⟩ := key 4 c4 (by omega) rfl
 obtain ⟨z5, rfl⟩ := key 5 c5 (by omega) rfl
 obtain ⟨z6, rfl⟩ := key 6 c6 (by omega) rfl
 obtain ⟨z7, rfl⟩ := key 7 c7 (by omega) rfl
 exact ⟨fun i => ([z0, z1, z2, z3, z4, z5, z6, z7] : List Int).getD i 0, rfl⟩
theorem list8 {l : List Value} (h : l.length = 8) : ∃ a b c d e f g i, l = [a, b, c, d, e, f, g, i] := by
 match l, h with
 | [a, b, c, d, e, f, g, i], _ => exact ⟨a, b, c, d, e, f, g, i, rfl⟩
theorem list16 {l : List Value} (h : l.length = 16) : ∃ a b c d e f g i a1 b1 c1 d1 e1 f1 g1 i1, l = [a, b, c, d, e, f, g, i, a1, b1, c1, d1, e1, f1, g1, i1] := by
 obtain ⟨a, b, c, d, e, f, g, i, h1⟩ := list8 (l := l.take 8) (by rw [List.length_take]; omega)
 obtain ⟨a1, b1, c1, d1, e1, f1, g1, i1, h2⟩ := list8 (l := l.drop 8) (by rw [List.length_drop]; omega)
 refine ⟨a, b, c, d, e, f, g, i, a1, b1, c1, d1, e1, f1, g1, i1, ?_⟩
 rw [← List.take_append_drop 8 l, h1, h2]
 rfl
theorem trod_msg {fuel : Nat} {cs : List Value} {x : DataW H × List MemPlace} (h : DataW.trod enc Tryz.prog w base spare held fuel 38 cs = some x) (hw : Within 38 x.1) : ∃ m : Msg, cs = m.cells ∧ MsgIn w m ∧ m.fits := by
 obtain ⟨xs, n, _, hxe, hl, hlen, hf⟩ := DataW.trod_struct Tryz.underlying38 h
 rw [cellsMsg] at hl
 obtain ⟨c0, c1, c2, c3, c4, c5, c6, c7, c8, c9, c10, c11, c12, c13, c14, c15, rfl⟩ := list16 hl
 have hx : xs.length = 9 := hlen
 obtain ⟨z0, e0, _⟩ := int_fld (hf 0 _ rfl) 0 rfl rfl (by omega)
 obtain ⟨z1, e1, _⟩ := int_fld (hf 1 _ rfl) 1 rfl rfl (by omega)
 obtain ⟨z2, e2, _⟩ := int_fld (hf 2 _ rfl) 2 rfl rfl (by omega)
 obtain ⟨z3, e3, _⟩ := int_fld (hf 3 _ rfl) 3 rfl rfl (by omega)
 obtain ⟨z4, e4, _⟩ := int_fld (hf 4 _ rfl) 4 rfl rfl (by omega)
 have h5 : DataW.trod enc Tryz.prog w base spare held n 33 [c5, c6, c7, c8, c9, c10, c11, c12] = xs[5]? := hf 5 _ rfl
 have h6 : DataW.trod enc Tryz.prog w base spare held n 34 [c13] = xs[6]? := hf 6 _ rfl
 have h7 : DataW.trod enc Tryz.prog w base spare held n 35 [c14] = xs[7]? := hf 7 _ rfl
 have h8 : DataW.trod enc Tryz.prog w base spare held n 36 [c15] = xs[8]? := hf 8 _ rfl
 rw [List.getElem?_eq_getElem (by omega)] at h5 h6 h7 h8
 rw [hxe] at hw
 have hw6 : Within 34 xs[6].1 := within_fld Tryz.underlying38 hw 6 rfl (by rw [List.getElem?_map, List.getElem?_eq_getElem (by omega)]; rfl)
 have hw7 : Within 35 xs[7].1 := within_fld Tryz.underlying38 hw 7 rfl (by rw [List.getElem?_map, List.getElem?_eq_getElem (by omega)]; rfl)
 have hw8 : Within 36 xs[8].1 := within_fld Tryz.underlying38 hw 8 rfl (by rw [List.getElem?_map, List.getElem?_eq_getElem (by omega)]; rfl)
 obtain ⟨u, e5⟩ := trod_upto h5 rfl
 obtain ⟨hd6, l6, e6, s6, g6, _⟩ := trod_dots h6 hw6
 obtain ⟨oa7, cap7, ps, e7, s7, g7, f7⟩ := trod_evs h7 hw7
 obtain ⟨hd8, l8, e8, s8, g8⟩ := trod_mems h8 hw8
 simp only [List.drop_succ_cons, List.drop_zero, List.take_succ_cons, List.take_zero, List.cons.injEq, and_true] at e0 e1 e2 e3 e4 e5 e6 e7 e8
 obtain ⟨rfl, rfl, rfl, rfl, rfl, rfl, rfl, rfl⟩ := e5
 subst e0 e1 e2 e3 e4 e6 e7 e8
 exact ⟨⟨z0, z1, z2, z3, z4, u, l6, ps, l8, hd6, ⟨oa7, ps.length, cap7⟩, hd8⟩, rfl, ⟨s6, s7, s8⟩, ⟨g6, g8, g7, fun p hp => (f7 p hp).2.2.2.2.2.2.2⟩⟩
theorem bytesIntG : (Tryz.prog).bytesOf 3 = 8 := by kernel_rfl
theorem trod_intsG {fuel : Nat} {cs : List Value} {x : DataW H × List MemPlace} (h : DataW.trod enc Tryz.prog w base spare held fuel 32 cs = some x) (hw : Within 32 x.1) :
  ∃ oa cap l, cs = [.slice oa l.length cap] ∧ SlAt icells w (.slice oa l.length cap) l ∧ l.length ≤ 17592186044416 := by
 obtain ⟨oa, cap, l, h1, h2, h3, _⟩ := trod_row icells 1 icells_len (by decide) Tryz.underlying32 cellsInt (fun _ => True) (fun n cs x h _ => by
  obtain ⟨z, h1, _, _⟩ := DataW.trod_int Tryz.underlying3 h
  exact ⟨z, h1, trivial⟩) h hw
 refine ⟨oa, cap, l, h1, h2, ?_⟩
 rw [bytesIntG] at h3
 simp only [reachBytes] at h3
 omega
theorem trod_gop {fuel : Nat} {cs : List Value} {x : DataW H × List MemPlace} (h : DataW.trod enc Tryz.prog w base spare held fuel 46 cs = some x) (hw : Within 46 x.1) : ∃ o : GOp, cs = o.cells ∧ GOpIn w o ∧ o.fits := by
 obtain ⟨xs, n, _, hxe, hl, hlen, hf⟩ := DataW.trod_struct Tryz.underlying46 h
 rw [cellsGOp] at hl
 obtain ⟨c0, c1, cs', rfl⟩ : ∃ c0 c1 cs', cs = c0 :: c1 :: cs' := by
  match cs, hl with
  | a :: b :: c, _ => exact ⟨a, b, c, rfl⟩
 have hl' : cs'.length = 30 := by simpa using hl
 have hx : xs.length = 4 := hlen
 obtain ⟨z0, e0, _⟩ := int_fld (hf 0 _ rfl) 0 rfl rfl (by omega)
 have h1 : DataW.trod enc Tryz.prog w base spare held n 32 [c1] = xs[1]? := hf 1 _ rfl
 have h2 : DataW.trod enc Tryz.prog w base spare held n 38 (cs'.take (Tryz.prog.cellsOf 38)) = xs[2]? := hf 2 _ rfl
 have h3 : DataW.trod enc Tryz.prog w base spare held n 44 ((cs'.drop 16).take (Tryz.prog.cellsOf 44)) = xs[3]? := hf 3 _ rfl
 rw [cellsMsg, List.getElem?_eq_getElem (by omega)] at h2
 rw [cellsEv, List.take_of_length_le (by rw [List.length_drop]; omega), List.getElem?_eq_getElem (by omega)] at h3
 rw [List.getElem?_eq_getElem (by omega)] at h1
 rw [hxe] at hw
 have hw1 : Within 32 xs[1].1 := within_fld Tryz.underlying46 hw 1 rfl (by rw [List.getElem?_map, List.getElem?_eq_getElem (by omega)]; rfl)
 have hw2 : Within 38 xs[2].1 := within_fld Tryz.underlying46 hw 2 rfl (by rw [List.getElem?_map, List.getElem?_eq_getElem (by omega)]; rfl)
 have hw3 : Within 44 xs[3].1 := within_fld Tryz.underlying46 hw 3 rfl (by rw [List.getElem?_map, List.getElem?_eq_getElem (by omega)]; rfl)
 obtain ⟨m, e2, hm, hmf⟩ := trod_msg h2 hw2
 obtain ⟨p, e3, hp, hpf⟩ := trod_ev h3 hw3
 obtain ⟨oa1, cap1, l1, e1, s1, g1⟩ := trod_intsG h1 hw1
 simp only [List.drop_zero, List.take_succ_cons, List.take_zero, List.cons.injEq, and_true] at e0 e1
 subst e0 e1
 have hcs : cs' = m.cells ++ pcells p := by rw [← List.take_append_drop 16 cs', e2, e3]
 obtain ⟨hd, ev⟩ := p
 exact ⟨⟨z0, l1, ⟨oa1, l1.length, cap1⟩, m, ev, hd⟩, by rw [hcs]; rfl, ⟨s1, hm, hp⟩, ⟨g1, hmf, hpf.2.2.2.2.2.2.2⟩⟩
theorem trod_gops {fuel : Nat} {cs : List Value} {x : DataW H × List MemPlace} (h : DataW.trod enc Tryz.prog w base spare held fuel 23 cs = some x) (hw : Within 23 x.1) : ∃ (oa : Option Addr) (cap : Nat) (l : List GOp), cs = [.slice oa l.length cap] ∧ GOpsAt w (.slice oa l.length cap) l ∧ l.length ≤ 1099511627776 ∧ ∀ o ∈ l, o.fits := by
 obtain ⟨oa, cap, l, hcs, hl, hb, hft⟩ := trod_row GOp.cells 32 GOp.cells_len (by decide) Tryz.underlying23 cellsGOp (fun o => GOpIn w o ∧ o.fits) (fun n cs x h hw => trod_gop h hw) h hw
 refine ⟨oa, cap, l, hcs, ⟨hl, fun o ho => (hft o ho).1⟩, ?_, fun o ho => (hft o ho).2⟩
 rw [bytesGOp] at hb
 unfold reachBytes at hb
 omega
theorem open_gplay {b0 : Nat} {r : Reach} {v : Value} {d : DataW H} {p : List MemPlace} (hv : Value.okWide Tryz.prog w r b0 25 v) (h : DataW.Trod enc Tryz.prog w base spare held 25 v d p) (hw : Within 25 d) : ∃ (me mtu seed : Int) (oa : Option Addr) (cap : Nat) (l : List GOp), v = .agg #[.int .i64 me, .int .i64 mtu, .int .u64 seed, .slice oa l.length cap] ∧ GOpsAt w (.slice oa l.length cap) l ∧ l.length ≤ 1099511627776 ∧ ∀ o ∈ l, o.fits := by
 obtain ⟨cs, rfl, _⟩ := okWide_struct Tryz.underlying25 hv
 obtain ⟨fuel, hf0⟩ := h
 obtain ⟨xs, n, _, hxe, hl, hlen, hf⟩ := DataW.trod_struct Tryz.underlying25 hf0
 rw [cellsPlay22] at hl
 obtain ⟨c0, c1, c2, c3, hcs⟩ := lst4 hl
 rw [hcs] at hf
 have hx : xs.length = 4 := hlen
 obtain ⟨z0, e0, _⟩ := int_fld (hf 0 _ rfl) 0 rfl rfl (by omega)
 obtain ⟨z1, e1, _⟩ := int_fld (hf 1 _ rfl) 1 rfl rfl (by omega)
 have h2 : DataW.trod enc Tryz.prog w base spare held n 22 [c2] = xs[2]? := hf 2 _ rfl
 have h3 : DataW.trod enc Tryz.prog w base spare held n 23 [c3] = xs[3]? := hf 3 _ rfl
 rw [List.getElem?_eq_getElem (by omega)] at h2 h3
 obtain ⟨z2, e2, _, _⟩ := DataW.trod_int Tryz.underlying22 h2
 have hd : d = DataW.agg (xs.map (·.1)) := congrArg Prod.fst hxe
 rw [hd] at hw
 have hw3 : Within 23 xs[3].1 := within_fld Tryz.underlying25 hw 3 rfl (by rw [List.getElem?_map, List.getElem?_eq_getElem (by omega)]; rfl)
 obtain ⟨oa, cap, l, e3, hg, hl2, hft⟩ := trod_gops h3 hw3
 simp only [List.drop_succ_cons, List.drop_zero, List.take_succ_cons, List.take_zero, List.cons.injEq, and_true] at e0 e1 e2 e3
 subst e0 e1 e2 e3
 refine ⟨z0, z1, z2, oa, cap, l, ?_, hg, hl2, hft⟩
 have h5 : cs.toList = [.int .i64 z0, .int .i64 z1, .int .u64 z2, .slice oa l.length cap] := by simpa [Value.cells] using hcs
 have : cs = #[.int .i64 z0, .int .i64 z1, .int .u64 z2, .slice oa l.length cap] := Array.toList_inj.1 (by simpa using h5)
 rw [this]
end
end Go.Proofs.YtenkfnhcdfmkaaaGreat
