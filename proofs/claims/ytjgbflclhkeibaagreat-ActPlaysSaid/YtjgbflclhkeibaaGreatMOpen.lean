/-
  How an argument that reads as data is opened: a policy, a dot, an event, a slice of dots or of events, in this text's own words (SlAt, EvsAt). No function of the program is entered.
  How arguments with slices are opened: dots, events, slices of both, in this text's own words (EvsAt), with the bounds of the form's reach. No function of the program is entered.
  How the arguments of the Act laws are opened: steps, how an actuator decides, and the structs that two laws are asked of. No function of the program is entered.
-/
import Derived.Test.YtjgbflclhkeibaaGreatMEv
import Derived.Test.YtjgbflclhkeibaaGreatRows
import Derived.ProofKit
import Derived.OpenShut
import Derived.SizedLaws
import Derived.DataElems
import Derived.Test.YtjgbflclhkeibaaGreatMAlive24
import Derived.Test.YtjgbflclhkeibaaGreatMWin
namespace Go.Proofs.YtjgbflclhkeibaaGreat
open Go.ChangeShapes Go.WideShapes Go.ChangeAt Go.RowKit
set_option linter.unusedVariables false

theorem ownNone : ownKnob Tryz.prog.godebug = none := by kernel_rfl
theorem laidOutP : laidOutB Tryz.prog = true := by kernel_rfl

def I64 (n : Int) : Prop := -9223372036854775808 ≤ n ∧ n ≤ 9223372036854775807
theorem i64_of_wf {n : Int} (h : (Lit.int .i64 n).wf = true) : I64 n := by
  have hmin : IntKind.i64.min = -9223372036854775808 := rfl
  have hmax : IntKind.i64.max = 9223372036854775807 := rfl
  simp only [Lit.wf, Bool.and_eq_true, decide_eq_true_eq] at h
  exact ⟨by omega, by omega⟩

section
variable {H : Type} {enc : TypeId × Value → H} {w : World} {base : Nat} {spare : Nat → Bool} {held : Bool}

/-- a field of a struct -/
theorem fld_at {cs : List Value} {xs : List (DataW H × List MemPlace)} {n i : Nat} {f : Field} (hf : DataW.trod enc Tryz.prog w base spare held n f.type ((cs.drop f.offset).take ((Tryz.prog).cellsOf f.type)) = xs[i]?) (t k o : Nat) (ht : f.type = t) (ho : f.offset = o) (hk : (Tryz.prog).cellsOf t = k) (hi : i < xs.length) :
    ∃ y, DataW.trod enc Tryz.prog w base spare held n t ((cs.drop o).take k) = some y := by
  subst ht ho hk
  rw [List.getElem?_eq_getElem hi] at hf
  exact ⟨_, hf⟩
theorem cellsInt : (Tryz.prog).cellsOf 3 = 1 := by kernel_rfl
theorem int_fld {cs : List Value} {xs : List (DataW H × List MemPlace)} {n i : Nat} {f : Field} (hf : DataW.trod enc Tryz.prog w base spare held n f.type ((cs.drop f.offset).take ((Tryz.prog).cellsOf f.type)) = xs[i]?) (o : Nat) (ht : f.type = 3) (ho : f.offset = o) (hi : i < xs.length) :
    ∃ z : Int, (cs.drop o).take 1 = [.int .i64 z] ∧ I64 z := by
  obtain ⟨y, hy⟩ := fld_at hf 3 1 o ht ho cellsInt hi
  obtain ⟨z, h1, _, h3⟩ := DataW.trod_int Tryz.underlying3 hy
  exact ⟨z, h1, i64_of_wf h3⟩

def Pol.fits (p : Pol) : Prop := I64 p.mn ∧ I64 p.mx ∧ I64 p.goal ∧ I64 p.slack ∧ I64 p.up ∧ I64 p.down ∧ I64 p.cool
def Dot.fits (d : Dot) : Prop := I64 d.node ∧ I64 d.seq

theorem cellsPol : Tryz.prog.cellsOf 53 = 7 := by kernel_rfl
theorem list7 {l : List Value} (h : l.length = 7) : ∃ a b c d e f g, l = [a, b, c, d, e, f, g] := by
  match l, h with
  | [a, b, c, d, e, f, g], _ => exact ⟨a, b, c, d, e, f, g, rfl⟩
set_option maxRecDepth 100000 in
theorem trod_pol {fuel : Nat} {cs : List Value} {x : DataW H × List MemPlace} (h : DataW.trod enc Tryz.prog w base spare held fuel 53 cs = some x) : ∃ p : Pol, cs = p.cells ∧ p.fits := by
  obtain ⟨xs, n, _, _, hl, hlen, hf⟩ := DataW.trod_struct Tryz.underlying53 h
  rw [cellsPol] at hl
  obtain ⟨c0, c1, c2, c3, c4, c5, c6, rfl⟩ := list7 hl
  have hx : xs.length = 7 := hlen
  obtain ⟨z0, e0, f0⟩ := int_fld (hf 0 _ rfl) 0 rfl rfl (by omega)
  obtain ⟨z1, e1, f1⟩ := int_fld (hf 1 _ rfl) 1 rfl rfl (by omega)
  obtain ⟨z2, e2, f2⟩ := int_fld (hf 2 _ rfl) 2 rfl rfl (by omega)
  obtain ⟨z3, e3, f3⟩ := int_fld (hf 3 _ rfl) 3 rfl rfl (by omega)
  obtain ⟨z4, e4, f4⟩ := int_fld (hf 4 _ rfl) 4 rfl rfl (by omega)
  obtain ⟨z5, e5, f5⟩ := int_fld (hf 5 _ rfl) 5 rfl rfl (by omega)
  obtain ⟨z6, e6, f6⟩ := int_fld (hf 6 _ rfl) 6 rfl rfl (by omega)
  simp only [List.drop_succ_cons, List.drop_zero, List.take_succ_cons, List.take_zero, List.cons.injEq, and_true] at e0 e1 e2 e3 e4 e5 e6
  subst e0 e1 e2 e3 e4 e5 e6
  exact ⟨⟨z0, z1, z2, z3, z4, z5, z6⟩, rfl, f0, f1, f2, f3, f4, f5, f6⟩
set_option maxRecDepth 100000 in
/-- a policy by value -/
theorem open_pol {b0 : Nat} {r : Reach} {v : Value} {d : DataW H} {p : List MemPlace} (hv : Value.okWide Tryz.prog w r b0 53 v) (h : DataW.Trod enc Tryz.prog w base spare held 53 v d p) : ∃ q : Pol, v = .agg #[.int .i64 q.mn, .int .i64 q.mx, .int .i64 q.goal, .int .i64 q.slack, .int .i64 q.up, .int .i64 q.down, .int .i64 q.cool] ∧ q.fits := by
  obtain ⟨cs, rfl, _⟩ := okWide_struct Tryz.underlying53 hv
  obtain ⟨fuel, hf⟩ := h
  obtain ⟨q, hq, hfit⟩ := trod_pol hf
  refine ⟨q, ?_, hfit⟩
  have : cs = q.cells.toArray := by rw [← hq]; simp [Value.cells]
  rw [this]; rfl
end
end Go.Proofs.YtjgbflclhkeibaaGreat
namespace Go.Proofs.YtjgbflclhkeibaaGreat
open Go.ChangeShapes Go.WideShapes Go.ChangeAt Go.RowKit
set_option linter.unusedVariables false
set_option maxRecDepth 100000

section
variable {H : Type} {enc : TypeId × Value → H} {w : World} {base : Nat} {spare : Nat → Bool} {held : Bool}

/-- each string, slice and map that is met takes at most the reach -/
def Within (t : TypeId) (d : DataW H) : Prop := ∀ n ∈ d.weights Tryz.prog t, n ≤ reachBytes

theorem within_arg {ts : List TypeId} {ds : List (DataW H)} (h : (DataW.weightsEach Tryz.prog ts ds).all (· ≤ reachBytes) = true) (j : Nat) {t : TypeId} {d : DataW H} (ht : ts[j]? = some t) (hd : ds[j]? = some d) : Within t d :=
  fun n hn => by simpa using List.all_eq_true.1 h _ (DataW.weights_mem_each ht hd n hn)

theorem within_mem {e : TypeId} : ∀ {l : List (DataW H)} {d : DataW H}, d ∈ l → ∀ n ∈ d.weights Tryz.prog e, n ∈ DataW.weightsAll Tryz.prog e l
  | d0 :: l, d, hd, n, hn => by
    simp only [DataW.weightsAll, List.mem_append]
    rcases List.mem_cons.1 hd with rfl | hd
    · exact .inl hn
    · exact .inr (within_mem hd n hn)

theorem within_slice {t e : TypeId} {elems rest : List (DataW H)} (hu : Tryz.prog.underlying t = some (.slice e)) (h : Within t (.slice elems rest)) : (elems.length + rest.length) * Tryz.prog.bytesOf e ≤ reachBytes ∧ ∀ d ∈ elems, Within e d := by
  unfold Within at h
  simp only [DataW.weights, hu, List.mem_cons, List.mem_append] at h
  exact ⟨h _ (.inl rfl), fun d hd n hn => h n (.inr (.inl (within_mem hd n hn)))⟩

theorem within_fld {t : TypeId} {fs : Array Field} {parts : List (DataW H)} (hu : Tryz.prog.underlying t = some (.struct fs)) (h : Within t (.agg parts)) (j : Nat) {f : Field} (hf : (fs.toList.map (·.type))[j]? = some f.type) {d : DataW H} (hd : parts[j]? = some d) : Within f.type d := by
  unfold Within at h
  simp only [DataW.weights, hu] at h
  exact fun n hn => h n (DataW.weights_mem_each hf hd n hn)

theorem pick_all {α : Type} {Q : Nat → α → Prop} : ∀ (n : Nat), (∀ i, i < n → ∃ a, Q i a) → ∃ l : List α, l.length = n ∧ ∀ i (h : i < l.length), Q i l[i]
  | 0, _ => ⟨[], rfl, fun i h => absurd h (by simp)⟩
  | n + 1, h => by
    obtain ⟨l, hl, hq⟩ := pick_all n fun i hi => h i (by omega)
    obtain ⟨a, ha⟩ := h n (by omega)
    refine ⟨l ++ [a], by simp [hl], fun i hi => ?_⟩
    by_cases e : i < l.length
    · rw [List.getElem_append_left e]; exact hq i e
    · obtain rfl : i = l.length := by simp at hi; omega
      simp only [List.getElem_concat_length]
      rw [hl]; exact ha

/-- a slice whose elements are read one by one -/
theorem trod_row {α : Type} (enc' : α → List Value) (k : Nat) (hk : ∀ x, (enc' x).length = k) (k0 : 0 < k) {t e : TypeId} (hu : Tryz.prog.underlying t = some (.slice e)) (hc : Tryz.prog.cellsOf e = k) (fit : α → Prop)
    (one : ∀ n cs (x : DataW H × List MemPlace), DataW.trod enc Tryz.prog w base spare held n e cs = some x → Within e x.1 → ∃ a : α, cs = enc' a ∧ fit a)
    {fuel : Nat} {cs : List Value} {x : DataW H × List MemPlace} (h : DataW.trod enc Tryz.prog w base spare held fuel t cs = some x) (hw : Within t x.1) :
    ∃ oa cap l, cs = [.slice oa l.length cap] ∧ SlAt enc' w (.slice oa l.length cap) l ∧ l.length * Tryz.prog.bytesOf e ≤ reachBytes ∧ ∀ a ∈ l, fit a := by
  rcases DataW.trod_slice hu h with ⟨rfl, rfl⟩ | ⟨a, len, cap, elems, rest, n, _, rfl, rfl, _, hlc, _, hel, hat, _, _⟩
  · exact ⟨none, 0, [], rfl, SlAt.nil _ _, by simp, fun a ha => by cases ha⟩
  · obtain ⟨hsz, hin⟩ := within_slice hu hw
    rw [hc] at hat
    have hall : ∀ i, i < len → ∃ b : α, (w.cells? base (a.add (i * k)) k) = some (enc' b) ∧ fit b := fun i hi => by
      have h1 := hat i hi
      have hlt : i < elems.length := by omega
      rw [List.getElem?_eq_getElem hlt] at h1
      obtain ⟨cs, hcs, htr⟩ := Option.bind_eq_some_iff.1 h1
      obtain ⟨b, rfl, hb⟩ := one n cs _ htr (hin _ (List.mem_map_of_mem (List.getElem_mem hlt)))
      exact ⟨b, hcs, hb⟩
    obtain ⟨l, hl, hq⟩ := pick_all len hall
    subst hl
    refine ⟨some a, cap, l, rfl, ⟨some a, cap, rfl, hlc, fun h => (nomatch h), fun a' ha' j u hj => ?_⟩, ?_, fun b hb => ?_⟩
    · cases ha'
      have hjl := (List.getElem?_eq_some_iff.1 hj).1
      rw [flat_len enc' k hk] at hjl
      have hi : j / k < l.length := (Nat.div_lt_iff_lt_mul k0).2 hjl
      have hcc : j % k < k := Nat.mod_lt _ k0
      have hjk : j / k * k + j % k = j := Nat.div_add_mod' j k
      have hf := flat_at enc' k hk l (j / k) (j % k) hi hcc
      rw [hjk, hj] at hf
      have h2 := (World.cells?_some (hq _ hi).1).2.2 (j % k) hcc
      rw [Addr.add_add, hjk, ← hf] at h2
      exact h2
    · refine Nat.le_trans (Nat.mul_le_mul_right _ ?_) hsz
      rw [List.length_map, hel]; omega
    · obtain ⟨i, hi, rfl⟩ := List.mem_iff_getElem.1 hb
      exact (hq i hi).2

theorem cellsDot : Tryz.prog.cellsOf 71 = 2 := by kernel_rfl
theorem list2 {l : List Value} (h : l.length = 2) : ∃ a b, l = [a, b] := by
  match l, h with
  | [a, b], _ => exact ⟨a, b, rfl⟩
theorem trod_dot {fuel : Nat} {cs : List Value} {x : DataW H × List MemPlace} (h : DataW.trod enc Tryz.prog w base spare held fuel 71 cs = some x) : ∃ d : Dot, cs = d.cells ∧ d.fits := by
  obtain ⟨xs, n, _, _, hl, hlen, hf⟩ := DataW.trod_struct Tryz.underlying71 h
  rw [cellsDot] at hl
  obtain ⟨c0, c1, rfl⟩ := list2 hl
  have hx : xs.length = 2 := hlen
  obtain ⟨z0, e0, f0⟩ := int_fld (hf 0 _ rfl) 0 rfl rfl (by omega)
  obtain ⟨z1, e1, f1⟩ := int_fld (hf 1 _ rfl) 1 rfl rfl (by omega)
  simp only [List.drop_succ_cons, List.drop_zero, List.take_succ_cons, List.take_zero, List.cons.injEq, and_true] at e0 e1
  subst e0 e1
  exact ⟨⟨z0, z1⟩, rfl, f0, f1⟩
theorem bytesDot : Tryz.prog.bytesOf 71 = 16 := by kernel_rfl
theorem trod_dots {fuel : Nat} {cs : List Value} {x : DataW H × List MemPlace} (h : DataW.trod enc Tryz.prog w base spare held fuel 72 cs = some x) (hw : Within 72 x.1) : ∃ (hd : Hdr) (l : List Dot), cs = [hd.val] ∧ SlAt Dot.cells w hd.val l ∧ l.length ≤ 8796093022208 ∧ ∀ d ∈ l, d.fits := by
  obtain ⟨oa, cap, l, hcs, hl, hb, hf⟩ := trod_row Dot.cells 2 Dot.cells_len (by decide) Tryz.underlying72 cellsDot Dot.fits (fun n cs x h _ => trod_dot h) h hw
  refine ⟨⟨oa, l.length, cap⟩, l, hcs, hl, ?_, hf⟩
  rw [bytesDot] at hb
  unfold reachBytes at hb
  omega
def Ev.fits (e : Ev) : Prop := e.dot.fits ∧ I64 e.time ∧ I64 e.kind ∧ I64 e.work ∧ I64 e.value ∧ e.pol.fits ∧ (∀ d ∈ e.rem, d.fits) ∧ e.rem.length ≤ 8796093022208
theorem cellsEv : Tryz.prog.cellsOf 74 = 14 := by kernel_rfl
theorem cellsDots : Tryz.prog.cellsOf 72 = 1 := by kernel_rfl
theorem list14 {l : List Value} (h : l.length = 14) : ∃ a b c d e f g a1 b1 c1 d1 e1 f1 g1, l = [a, b, c, d, e, f, g, a1, b1, c1, d1, e1, f1, g1] := by
  match l, h with
  | [a, b, c, d, e, f, g, a1, b1, c1, d1, e1, f1, g1], _ => exact ⟨a, b, c, d, e, f, g, a1, b1, c1, d1, e1, f1, g1, rfl⟩
theorem trod_ev {fuel : Nat} {cs : List Value} {x : DataW H × List MemPlace} (h : DataW.trod enc Tryz.prog w base spare held fuel 74 cs = some x) (hw : Within 74 x.1) : ∃ p : PEv, cs = pcells p ∧ SlAt Dot.cells w p.1.val p.2.rem ∧ p.2.fits := by
  obtain ⟨xs, n, _, hxe, hl, hlen, hf⟩ := DataW.trod_struct Tryz.underlying74 h
  rw [cellsEv] at hl
  obtain ⟨c0, c1, c2, c3, c4, c5, c6, c7, c8, c9, c10, c11, c12, c13, rfl⟩ := list14 hl
  have hx : xs.length = 7 := hlen
  obtain ⟨y0, h0⟩ := fld_at (hf 0 _ rfl) 71 2 0 rfl rfl cellsDot (by omega)
  obtain ⟨d0, e0, f0⟩ := trod_dot h0
  obtain ⟨z2, e2, f2⟩ := int_fld (hf 1 _ rfl) 2 rfl rfl (by omega)
  obtain ⟨z3, e3, f3⟩ := int_fld (hf 2 _ rfl) 3 rfl rfl (by omega)
  obtain ⟨z4, e4, f4⟩ := int_fld (hf 3 _ rfl) 4 rfl rfl (by omega)
  obtain ⟨z5, e5, f5⟩ := int_fld (hf 4 _ rfl) 5 rfl rfl (by omega)
  obtain ⟨y6, h6⟩ := fld_at (hf 5 _ rfl) 53 7 6 rfl rfl cellsPol (by omega)
  obtain ⟨p6, e6, f6⟩ := trod_pol h6
  have h13 : DataW.trod enc Tryz.prog w base spare held n 72 [c13] = xs[6]? := hf 6 _ rfl
  have hlt : 6 < xs.length := by omega
  rw [List.getElem?_eq_getElem hlt] at h13
  have hw6 : Within 72 xs[6].1 := by
    rw [hxe] at hw
    exact within_fld Tryz.underlying74 hw 6 rfl (by rw [List.getElem?_map, List.getElem?_eq_getElem hlt]; rfl)
  obtain ⟨hd, ds, e13, s13, l13, f13⟩ := trod_dots h13 hw6
  simp only [List.drop_succ_cons, List.drop_zero, List.take_succ_cons, List.take_zero, List.cons.injEq, and_true, Dot.cells, Pol.cells] at e0 e2 e3 e4 e5 e6 e13
  obtain ⟨rfl, rfl⟩ := e0
  obtain ⟨rfl, rfl, rfl, rfl, rfl, rfl, rfl⟩ := e6
  subst e2 e3 e4 e5 e13
  exact ⟨(hd, ⟨d0, z2, z3, z4, z5, p6, ds⟩), rfl, s13, f0, f2, f3, f4, f5, f6, f13, l13⟩
theorem bytesEv : Tryz.prog.bytesOf 74 = 128 := by kernel_rfl
theorem trod_evs {fuel : Nat} {cs : List Value} {x : DataW H × List MemPlace} (h : DataW.trod enc Tryz.prog w base spare held fuel 36 cs = some x) (hw : Within 36 x.1) : ∃ oa cap ps, cs = [.slice oa ps.length cap] ∧ EvsAt w (.slice oa ps.length cap) ps ∧ ps.length ≤ 1099511627776 ∧ ∀ p ∈ ps, p.2.fits := by
  obtain ⟨oa, cap, l, hcs, hl, hb, hf⟩ := trod_row pcells 14 pcells_len (by decide) Tryz.underlying36 cellsEv (fun p => SlAt Dot.cells w p.1.val p.2.rem ∧ p.2.fits) (fun n cs x h hw => trod_ev h hw) h hw
  refine ⟨oa, cap, l, hcs, ⟨hl, fun p hp => (hf p hp).1⟩, ?_, fun p hp => (hf p hp).2⟩
  rw [bytesEv] at hb
  unfold reachBytes at hb
  omega
/-- events by value -/
theorem open_evs {b0 : Nat} {r : Reach} {v : Value} {d : DataW H} {p : List MemPlace} (hv : Value.okWide Tryz.prog w r b0 36 v) (h : DataW.Trod enc Tryz.prog w base spare held 36 v d p) (hw : Within 36 d) : ∃ oa cap ps, v = .slice oa ps.length cap ∧ EvsAt w (.slice oa ps.length cap) ps ∧ ps.length ≤ 1099511627776 ∧ ∀ p ∈ ps, p.2.fits := by
  obtain ⟨a, len, cap0, rfl⟩ := okWide_slice Tryz.underlying36 hv
  obtain ⟨fuel, hf⟩ := h
  obtain ⟨oa, cap, ps, hcs, hrest⟩ := trod_evs hf hw
  have e : (Value.slice a len cap0) = .slice oa ps.length cap := by simpa [Value.cells] using hcs
  exact ⟨oa, cap, ps, e, hrest⟩
end
end Go.Proofs.YtjgbflclhkeibaaGreat
namespace Go.Proofs.YtjgbflclhkeibaaGreat
open Go.ChangeShapes Go.WideShapes Go.ChangeAt Go.RowKit
set_option linter.unusedVariables false
set_option maxRecDepth 100000
theorem u8_of_wf {n : Int} (h : (Lit.int .u8 n).wf = true) : 0 ≤ n ∧ n ≤ 255 := by
  have hmin : IntKind.u8.min = 0 := rfl
  have hmax : IntKind.u8.max = 255 := rfl
  simp only [Lit.wf, Bool.and_eq_true, decide_eq_true_eq] at h
  exact ⟨by omega, by omega⟩
theorem u16_of_wf {n : Int} (h : (Lit.int .u16 n).wf = true) : 0 ≤ n ∧ n ≤ 65535 := by
  have hmin : IntKind.u16.min = 0 := rfl
  have hmax : IntKind.u16.max = 65535 := rfl
  simp only [Lit.wf, Bool.and_eq_true, decide_eq_true_eq] at h
  exact ⟨by omega, by omega⟩
theorem u64_of_wf {n : Int} (h : (Lit.int .u64 n).wf = true) : 0 ≤ n ∧ n < 18446744073709551616 := by
  have hmin : IntKind.u64.min = 0 := rfl
  have hmax : IntKind.u64.max = 18446744073709551615 := rfl
  simp only [Lit.wf, Bool.and_eq_true, decide_eq_true_eq] at h
  exact ⟨by omega, by omega⟩
theorem list4 {l : List Value} (h : l.length = 4) : ∃ a b c d, l = [a, b, c, d] := by
  match l, h with
  | [a, b, c, d], _ => exact ⟨a, b, c, d, rfl⟩
theorem list6 {l : List Value} (h : l.length = 6) : ∃ a b c d e f, l = [a, b, c, d, e, f] := by
  match l, h with
  | [a, b, c, d, e, f], _ => exact ⟨a, b, c, d, e, f, rfl⟩
theorem list10 {l : List Value} (h : l.length = 10) : ∃ a b c d e f g a1 b1 c1, l = [a, b, c, d, e, f, g, a1, b1, c1] := by
  match l, h with
  | [a, b, c, d, e, f, g, a1, b1, c1], _ => exact ⟨a, b, c, d, e, f, g, a1, b1, c1, rfl⟩
section
variable {H : Type} {enc : TypeId × Value → H} {w : World} {base : Nat} {spare : Nat → Bool} {held : Bool}
theorem bytesInt : (Tryz.prog).bytesOf 3 = 8 := by kernel_rfl
theorem trod_intsw {fuel : Nat} {cs : List Value} {x : DataW H × List MemPlace} (h : DataW.trod enc Tryz.prog w base spare held fuel 37 cs = some x) (hw : Within 37 x.1) :
    ∃ oa cap l, cs = [.slice oa l.length cap] ∧ SlAt icells w (.slice oa l.length cap) l ∧ l.length ≤ 17592186044416 ∧ ∀ z ∈ l, I64 z := by
  obtain ⟨oa, cap, l, h1, h2, h3, h4⟩ := trod_row icells 1 icells_len (by decide) Tryz.underlying37 cellsInt (fun z => I64 z) (fun n cs x h _ => by
    obtain ⟨z, h1, _, h2⟩ := DataW.trod_int Tryz.underlying3 h
    exact ⟨z, h1, i64_of_wf h2⟩) h hw
  refine ⟨oa, cap, l, h1, h2, ?_, h4⟩
  rw [bytesInt] at h3
  simp only [reachBytes] at h3
  omega
theorem cellsOp : Tryz.prog.cellsOf 39 = 6 := by kernel_rfl
theorem bytesOp : Tryz.prog.bytesOf 39 = 80 := by kernel_rfl
/-- what is known of a step by its kinds -/
def AOp.fits (o : AOp) : Prop := (∀ p ∈ o.evs, p.2.fits) ∧ (∀ z ∈ o.live, I64 z) ∧ I64 o.work ∧ I64 o.now ∧ I64 o.tick
theorem trod_op {fuel : Nat} {cs : List Value} {x : DataW H × List MemPlace} (h : DataW.trod enc Tryz.prog w base spare held fuel 39 cs = some x) (hw : Within 39 x.1) :
    ∃ o : AOp, cs = o.cells ∧ (EvsAt w (.slice o.oe o.evs.length o.ce) o.evs ∧ SlAt icells w (.slice o.ol o.live.length o.cl) o.live) ∧ o.fits ∧ o.sized := by
  obtain ⟨xs, n, _, hxe, hl, hlen, hf⟩ := DataW.trod_struct Tryz.underlying39 h
  rw [cellsOp] at hl
  obtain ⟨c0, c1, c2, c3, c4, c5, rfl⟩ := list6 hl
  have hx : xs.length = 6 := hlen
  have h0 : DataW.trod enc Tryz.prog w base spare held n 4 [c0] = xs[0]? := hf 0 _ rfl
  have h1 : DataW.trod enc Tryz.prog w base spare held n 36 [c1] = xs[1]? := hf 1 _ rfl
  have h2 : DataW.trod enc Tryz.prog w base spare held n 37 [c2] = xs[2]? := hf 2 _ rfl
  have h3 : DataW.trod enc Tryz.prog w base spare held n 3 [c3] = xs[3]? := hf 3 _ rfl
  have h4 : DataW.trod enc Tryz.prog w base spare held n 3 [c4] = xs[4]? := hf 4 _ rfl
  have h5 : DataW.trod enc Tryz.prog w base spare held n 3 [c5] = xs[5]? := hf 5 _ rfl
  rw [List.getElem?_eq_getElem (by omega)] at h0 h1 h2 h3 h4 h5
  have hw1 : Within 36 xs[1].1 := by
    rw [hxe] at hw
    exact within_fld Tryz.underlying39 hw 1 rfl (by rw [List.getElem?_map, List.getElem?_eq_getElem (by omega)]; rfl)
  have hw2 : Within 37 xs[2].1 := by
    rw [hxe] at hw
    exact within_fld Tryz.underlying39 hw 2 rfl (by rw [List.getElem?_map, List.getElem?_eq_getElem (by omega)]; rfl)
  obtain ⟨z0, e0, _⟩ := DataW.trod_bool Tryz.underlying4 h0
  obtain ⟨oe, ce, ps, e1, s1, g1, f1⟩ := trod_evs h1 hw1
  obtain ⟨ol, cl, l, e2, s2, g2, f2⟩ := trod_intsw h2 hw2
  obtain ⟨z3, e3, _, w3⟩ := DataW.trod_int Tryz.underlying3 h3
  obtain ⟨z4, e4, _, w4⟩ := DataW.trod_int Tryz.underlying3 h4
  obtain ⟨z5, e5, _, w5⟩ := DataW.trod_int Tryz.underlying3 h5
  simp only [List.cons.injEq, and_true] at e0 e1 e2 e3 e4 e5
  subst e0 e1 e2 e3 e4 e5
  exact ⟨⟨z0, oe, ce, ps, ol, cl, l, z3, z4, z5⟩, rfl, ⟨s1, s2⟩, ⟨f1, f2, i64_of_wf w3, i64_of_wf w4, i64_of_wf w5⟩, g1, fun p hp => (f1 p hp).2.2.2.2.2.2.2, g2⟩
theorem open_aops {b0 : Nat} {r : Reach} {v : Value} {d : DataW H} {p : List MemPlace} (hv : Value.okWide Tryz.prog w r b0 25 v) (h : DataW.Trod enc Tryz.prog w base spare held 25 v d p) (hw : Within 25 d) :
    ∃ oa cap l, v = .slice oa l.length cap ∧ OpsAt w (.slice oa l.length cap) l ∧ l.length ≤ 1000000000000000 ∧ ∀ o ∈ l, o.fits ∧ o.sized := by
  obtain ⟨a, len, cap0, rfl⟩ := okWide_slice Tryz.underlying25 hv
  obtain ⟨fuel, hf⟩ := h
  obtain ⟨oa, cap, l, hcs, hl, hb, hf⟩ := trod_row AOp.cells 6 AOp.cells_len (by decide) Tryz.underlying25 cellsOp (fun o => (EvsAt w (.slice o.oe o.evs.length o.ce) o.evs ∧ SlAt icells w (.slice o.ol o.live.length o.cl) o.live) ∧ o.fits ∧ o.sized) (fun n cs x h hw => trod_op h hw) hf hw
  have e : (Value.slice a len cap0) = .slice oa l.length cap := by simpa [Value.cells] using hcs
  refine ⟨oa, cap, l, e, ⟨hl, fun o ho => (hf o ho).1⟩, ?_, fun o ho => (hf o ho).2⟩
  rw [bytesOp] at hb
  unfold reachBytes at hb
  omega
theorem cellsConf : Tryz.prog.cellsOf 24 = 4 := by kernel_rfl
theorem open_conf {b0 : Nat} {r : Reach} {v : Value} {d : DataW H} {p : List MemPlace} (hv : Value.okWide Tryz.prog w r b0 24 v) (h : DataW.Trod enc Tryz.prog w base spare held 24 v d p) :
    ∃ c : ACfg, v = .agg #[.int .i64 c.self, .int .i64 c.window, .int .i64 c.keep, .int .u64 c.salt] ∧ 0 ≤ c.salt ∧ c.salt < 18446744073709551616 ∧ I64 c.self ∧ I64 c.window ∧ I64 c.keep := by
  obtain ⟨cs, rfl, _⟩ := okWide_struct Tryz.underlying24 hv
  obtain ⟨fuel, hf0⟩ := h
  obtain ⟨xs, n, _, _, hl, hlen, hf⟩ := DataW.trod_struct Tryz.underlying24 hf0
  rw [cellsConf] at hl
  obtain ⟨c0, c1, c2, c3, hcs⟩ := list4 hl
  rw [hcs] at hf
  have hx : xs.length = 4 := hlen
  have h0 : DataW.trod enc Tryz.prog w base spare held n 3 [c0] = xs[0]? := hf 0 _ rfl
  have h1 : DataW.trod enc Tryz.prog w base spare held n 3 [c1] = xs[1]? := hf 1 _ rfl
  have h2 : DataW.trod enc Tryz.prog w base spare held n 3 [c2] = xs[2]? := hf 2 _ rfl
  have h3 : DataW.trod enc Tryz.prog w base spare held n 22 [c3] = xs[3]? := hf 3 _ rfl
  rw [List.getElem?_eq_getElem (by omega)] at h0 h1 h2 h3
  obtain ⟨z0, e0, _, w0⟩ := DataW.trod_int Tryz.underlying3 h0
  obtain ⟨z1, e1, _, w1⟩ := DataW.trod_int Tryz.underlying3 h1
  obtain ⟨z2, e2, _, w2⟩ := DataW.trod_int Tryz.underlying3 h2
  obtain ⟨z3, e3, _, w3⟩ := DataW.trod_int Tryz.underlying22 h3
  simp only [List.cons.injEq, and_true] at e0 e1 e2 e3
  subst e0 e1 e2 e3
  refine ⟨⟨z0, z1, z2, z3⟩, ?_, (u64_of_wf w3).1, (u64_of_wf w3).2, i64_of_wf w0, i64_of_wf w1, i64_of_wf w2⟩
  have : cs = #[.int .i64 z0, .int .i64 z1, .int .i64 z2, .int .u64 z3] := by
    have h5 : cs.toList = [.int .i64 z0, .int .i64 z1, .int .i64 z2, .int .u64 z3] := by simpa [Value.cells] using hcs
    exact Array.toList_inj.1 (by simpa using h5)
  rw [this]
end
end Go.Proofs.YtjgbflclhkeibaaGreat
