/-
  How arguments with slices are opened: dots, events, slices of both, in this text's own words (EvsAt), with the bounds of the form's reach. No function of the program is entered.
-/
import Derived.Test.YtenkfnhcdfmkaaaGreatMOpen
import Derived.SizedLaws
import Derived.DataElems
namespace Go.Proofs.YtenkfnhcdfmkaaaGreat
open Go.ChangeShapes Go.WideShapes Go.ChangeAt Go.RowKit
set_option linter.unusedVariables false
set_option maxRecDepth 100000
section
variable {H : Type} {enc : TypeId × Value → H} {w : World} {base : Nat} {spare : Nat → Bool} {held : Bool}
def Within (t : TypeId) (d : DataW H) : Prop := ∀ n ∈ d.weights Tryz.prog t, n ≤ reachBytes
theorem within_arg {ts : List TypeId} {ds : List (DataW H)} (h : (DataW.weightsEach Tryz.prog ts ds).all (· ≤ reachBytes) = true) (j : Nat) {t : TypeId} {d : DataW H} (ht : ts[j]? = some t) (hd : ds[j]? = some d) : Within t d :=
 fun n hn => by simpa using List.all_eq_true.1 h _ (DataW.weights_mem_each ht hd n hn)
theorem within_mem {e : TypeId} : ∀ {l : List (DataW H)} {d : DataW H}, d ∈ l → ∀ n ∈ d.weights Tryz.prog e, n ∈ DataW.weightsAll Tryz.prog e l
 | d0 :: l, d, hd, n, hn => by
  simp only [DataW.weightsAll, List.mem_append]
  rcases List.mem_cons.1 hd with rfl | hd
  ·exact .inl hn
  ·exact .inr (within_mem hd n hn)
theorem within_slice {t e : TypeId} {elems rest : List (DataW H)} (hu : Tryz.prog.underlying t = some (.slice e)) (h : Within t (.slice elems rest)) : (elems.length + rest.length) * Tryz.prog.bytesOf e ≤ reachBytes ∧ ∀ d ∈ elems, Within e d := by
 unfold Within at h
 simp only [DataW.weights, hu, List.mem_cons, List.mem_append] at h
 exact ⟨h _ (.inl rfl), fun d hd n hn => h n (.inr (.inl (within_mem hd n hn)))⟩
theorem within_fld {t : TypeId} {fs : Array Field} {parts : List (DataW H)} (hu : Tryz.prog.underlying t = some (.struct fs)) (h : Within t (.agg parts)) (j : Nat) {f : Field} (hf : (fs.toList.map (·.type))[j]? = some f.type) {d : DataW H} (hd : parts[j]? = some d) : Within f.type d := by
 unfold Within at h
 simp only [DataW.weights, hu] at h
 exact fun n hn => h n (DataW.weights_mem_each hf hd n hn)
theorem pick_all {α : Type} {Q : Nat → α → Prop} : ∀ (n : Nat), (∀ i, i < n → ∃ a, Q i a) → ∃ l : List α, l.length = n ∧ ∀ i (h : i < l.length), Q i l[i]
 | 0, _ => ⟨[], rfl, fun i h => absurd h (by simp)⟩
 | n + 1, h => by
  obtain ⟨l, hl, hq⟩ := pick_all n fun i hi => h i (by omega)
  obtain ⟨a, ha⟩ := h n (by omega)
  refine ⟨l ++ [a], by simp [hl], fun i hi => ?_⟩
  by_cases e : i < l.length
  ·rw [List.getElem_append_left e]; exact hq i e
  ·obtain rfl : i = l.length := by simp at hi; omega
   simp only [List.getElem_concat_length]
   rw [hl]; exact ha
theorem trod_row {α : Type} (enc' : α → List Value) (k : Nat) (hk : ∀ x, (enc' x).length = k) (k0 : 0 < k) {t e : TypeId} (hu : Tryz.prog.underlying t = some (.slice e)) (hc : Tryz.prog.cellsOf e = k) (fit : α → Prop)
  (one : ∀ n cs (x : DataW H × List MemPlace), DataW.trod enc Tryz.prog w base spare held n e cs = some x → Within e x.1 → ∃ a : α, cs = enc' a ∧ fit a)
  {fuel : Nat} {cs : List Value} {x : DataW H × List MemPlace} (h : DataW.trod enc Tryz.prog w base spare held fuel t cs = some x) (hw : Within t x.1) :
  ∃ oa cap l, cs = [.slice oa l.length cap] ∧ SlAt enc' w (.slice oa l.length cap) l ∧ l.length * Tryz.prog.bytesOf e ≤ reachBytes ∧ ∀ a ∈ l, fit a := by
 rcases DataW.trod_slice hu h with ⟨rfl, rfl⟩ | ⟨a, len, cap, elems, rest, n, _, rfl, rfl, _, hlc, _, hel, hat, _, _⟩
 ·exact ⟨none, 0, [], rfl, SlAt.nil _ _, by simp, fun a ha => by cases ha⟩
 ·obtain ⟨hsz, hin⟩ := within_slice hu hw
  rw [hc] at hat
  have hall : ∀ i, i < len → ∃ b : α, (w.cells? base (a.add (i * k)) k) = some (enc' b) ∧ fit b := fun i hi => by
   have h1 := hat i hi
   have hlt : i < elems.length := by omega
   rw [List.getElem?_eq_getElem hlt] at h1
   obtain ⟨cs, hcs, htr⟩ := Option.bind_eq_some_iff.1 h1
   obtain ⟨b, rfl, hb⟩ := one n cs _ htr (hin _ (List.mem_map_of_mem (List.getElem_mem hlt)))
   exact ⟨b, hcs, hb⟩
  obtain ⟨l, hl, hq⟩ := pick_all len hall
  subst hl
  refine ⟨some a, cap, l, rfl, ⟨some a, cap, rfl, hlc, fun h => (nomatch h), fun a' ha' j u hj => ?_⟩, ?_, fun b hb => ?_⟩
  ·cases ha'
   have hjl := (List.getElem?_eq_some_iff.1 hj).1
   rw [flat_len enc' k hk] at hjl
   have hi : j / k < l.length := (Nat.div_lt_iff_lt_mul k0).2 hjl
   have hcc : j % k < k := Nat.mod_lt _ k0
   have hjk : j / k * k + j % k = j := Nat.div_add_mod' j k
   have hf := flat_at enc' k hk l (j / k) (j % k) hi hcc
   rw [hjk, hj] at hf
   have h2 := (World.cells?_some (hq _ hi).1).2.2 (j % k) hcc
   rw [Addr.add_add, hjk, ← hf] at h2
   exact h2
  ·refine Nat.le_trans (Nat.mul_le_mul_right _ ?_) hsz
   rw [List.length_map, hel]; omega
  ·obtain ⟨i, hi, rfl⟩ := List.mem_iff_getElem.1 hb
   exact (hq i hi).2
theorem cellsDot : Tryz.prog.cellsOf 40 = 2 := by kernel_rfl
theorem list2 {l : List Value} (h : l.length = 2) : ∃ a b, l = [a, b] := by
 match l, h with
 | [a, b], _ => exact ⟨a, b, rfl⟩
theorem trod_dot {fuel : Nat} {cs : List Value} {x : DataW H × List MemPlace} (h : DataW.trod enc Tryz.prog w base spare held fuel 40 cs = some x) : ∃ d : Dot, cs = d.cells ∧ d.fits := by
 obtain ⟨xs, n, _, _, hl, hlen, hf⟩ := DataW.trod_struct Tryz.underlying40 h
 rw [cellsDot] at hl
 obtain ⟨c0, c1, rfl⟩ := list2 hl
 have hx : xs.length = 2 := hlen
 obtain ⟨z0, e0, f0⟩ := int_fld (hf 0 _ rfl) 0 rfl rfl (by omega)
 obtain ⟨z1, e1, f1⟩ := int_fld (hf 1 _ rfl) 1 rfl rfl (by omega)
 simp only [List.drop_succ_cons, List.drop_zero, List.take_succ_cons, List.take_zero, List.cons.injEq, and_true] at e0 e1
 subst e0 e1
 exact ⟨⟨z0, z1⟩, rfl, f0, f1⟩
theorem bytesDot : Tryz.prog.bytesOf 40 = 16 := by kernel_rfl
theorem trod_dots {fuel : Nat} {cs : List Value} {x : DataW H × List MemPlace} (h : DataW.trod enc Tryz.prog w base spare held fuel 34 cs = some x) (hw : Within 34 x.1) : ∃ (hd : Hdr) (l : List Dot), cs = [hd.val] ∧ SlAt Dot.cells w hd.val l ∧ l.length ≤ 8796093022208 ∧ ∀ d ∈ l, d.fits := by
 obtain ⟨oa, cap, l, hcs, hl, hb, hf⟩ := trod_row Dot.cells 2 Dot.cells_len (by decide) Tryz.underlying34 cellsDot Dot.fits (fun n cs x h _ => trod_dot h) h hw
 refine ⟨⟨oa, l.length, cap⟩, l, hcs, hl, ?_, hf⟩
 rw [bytesDot] at hb
 unfold reachBytes at hb
 omega
def Ev.fits (e : Ev) : Prop := e.dot.fits ∧ I64 e.time ∧ I64 e.kind ∧ I64 e.work ∧ I64 e.value ∧ e.pol.fits ∧ (∀ d ∈ e.rem, d.fits) ∧ e.rem.length ≤ 8796093022208
theorem cellsEv : Tryz.prog.cellsOf 44 = 14 := by kernel_rfl
theorem list14 {l : List Value} (h : l.length = 14) : ∃ a b c d e f g a1 b1 c1 d1 e1 f1 g1, l = [a, b, c, d, e, f, g, a1, b1, c1, d1, e1, f1, g1] := by
 match l, h with
 | [a, b, c, d, e, f, g, a1, b1, c1, d1, e1, f1, g1], _ => exact ⟨a, b, c, d, e, f, g, a1, b1, c1, d1, e1, f1, g1, rfl⟩
theorem trod_ev {fuel : Nat} {cs : List Value} {x : DataW H × List MemPlace} (h : DataW.trod enc Tryz.prog w base spare held fuel 44 cs = some x) (hw : Within 44 x.1) : ∃ p : PEv, cs = pcells p ∧ SlAt Dot.cells w p.1.val p.2.rem ∧ p.2.fits := by
 obtain ⟨xs, n, _, hxe, hl, hlen, hf⟩ := DataW.trod_struct Tryz.underlying44 h
 rw [cellsEv] at hl
 obtain ⟨c0, c1, c2, c3, c4, c5, c6, c7, c8, c9, c10, c11, c12, c13, rfl⟩ := list14 hl
 have hx : xs.length = 7 := hlen
 obtain ⟨y0, h0⟩ := fld_at (hf 0 _ rfl) 40 2 0 rfl rfl cellsDot (by omega)
 obtain ⟨d0, e0, f0⟩ := trod_dot h0
 obtain ⟨z2, e2, f2⟩ := int_fld (hf 1 _ rfl) 2 rfl rfl (by omega)
 obtain ⟨z3, e3, f3⟩ := int_fld (hf 2 _ rfl) 3 rfl rfl (by omega)
 obtain ⟨z4, e4, f4⟩ := int_fld (hf 3 _ rfl) 4 rfl rfl (by omega)
 obtain ⟨z5, e5, f5⟩ := int_fld (hf 4 _ rfl) 5 rfl rfl (by omega)
 obtain ⟨y6, h6⟩ := fld_at (hf 5 _ rfl) 42 7 6 rfl rfl cellsPol (by omega)
 obtain ⟨p6, e6, f6⟩ := trod_pol h6
 have h13 : DataW.trod enc Tryz.prog w base spare held n 34 [c13] = xs[6]? := hf 6 _ rfl
 have hlt : 6 < xs.length := by omega
 rw [List.getElem?_eq_getElem hlt] at h13
 have hw6 : Within 34 xs[6].1 := by
  rw [hxe] at hw
  exact within_fld Tryz.underlying44 hw 6 rfl (by rw [List.getElem?_map, List.getElem?_eq_getElem hlt]; rfl)
 obtain ⟨hd, ds, e13, s13, l13, f13⟩ := trod_dots h13 hw6
 simp only [List.drop_succ_cons, List.drop_zero, List.take_succ_cons, List.take_zero, List.cons.injEq, and_true, Dot.cells, Pol.cells] at e0 e2 e3 e4 e5 e6 e13
 obtain ⟨rfl, rfl⟩ := e0
 obtain ⟨rfl, rfl, rfl, rfl, rfl, rfl, rfl⟩ := e6
 subst e2 e3 e4 e5 e13
 exact ⟨(hd, ⟨d0, z2, z3, z4, z5, p6, ds⟩), rfl, s13, f0, f2, f3, f4, f5, f6, f13, l13⟩
theorem bytesEv : Tryz.prog.bytesOf 44 = 128 := by kernel_rfl
theorem trod_evs {fuel : Nat} {cs : List Value} {x : DataW H × List MemPlace} (h : DataW.trod enc Tryz.prog w base spare held fuel 35 cs = some x) (hw : Within 35 x.1) : ∃ oa cap ps, cs = [.slice oa ps.length cap] ∧ EvsAt w (.slice oa ps.length cap) ps ∧ ps.length ≤ 1099511627776 ∧ ∀ p ∈ ps, p.2.fits := by
 obtain ⟨oa, cap, l, hcs, hl, hb, hf⟩ := trod_row pcells 14 pcells_len (by decide) Tryz.underlying35 cellsEv (fun p => SlAt Dot.cells w p.1.val p.2.rem ∧ p.2.fits) (fun n cs x h hw => trod_ev h hw) h hw
 refine ⟨oa, cap, l, hcs, ⟨hl, fun p hp => (hf p hp).1⟩, ?_, fun p hp => (hf p hp).2⟩
 rw [bytesEv] at hb
 unfold reachBytes at hb
 omega
theorem open_evs {b0 : Nat} {r : Reach} {v : Value} {d : DataW H} {p : List MemPlace} (hv : Value.okWide Tryz.prog w r b0 35 v) (h : DataW.Trod enc Tryz.prog w base spare held 35 v d p) (hw : Within 35 d) : ∃ oa cap ps, v = .slice oa ps.length cap ∧ EvsAt w (.slice oa ps.length cap) ps ∧ ps.length ≤ 1099511627776 ∧ ∀ p ∈ ps, p.2.fits := by
 obtain ⟨a, len, cap0, rfl⟩ := okWide_slice Tryz.underlying35 hv
 obtain ⟨fuel, hf⟩ := h
 obtain ⟨oa, cap, ps, hcs, hrest⟩ := trod_evs hf hw
 have e : (Value.slice a len cap0) = .slice oa ps.length cap := by simpa [Value.cells] using hcs
 exact ⟨oa, cap, ps, e, hrest⟩
end
end Go.Proofs.YtenkfnhcdfmkaaaGreat
