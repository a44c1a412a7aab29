/-
  Plain facts on stable sortings, and the newest samples of one node. No function of the program is entered.
  sat.Add and the document's Add: both saturate at the top; (*total).add: one more number onto a sum.
  Of a slice of the call's own its beginning is its own too.
  window.Of: the newest samples of one node, each with a clone of its own slice, in new memory.
-/
import Derived.Test.YtjgbflclhkeibaaMCmp
import Derived.Test.YtjgbflclhkeibaaMEv
import Derived.Test.YtjgbflclhkeibaaMSat
import Derived.Test.YtjgbflclhkeibaaMSortSt
namespace Go.Proofs.Ytjgbflclhkeibaa
open Go.Sort
set_option linter.unusedVariables false

theorem sorted_append {α : Type} {lt : α → α → Bool} {a b : List α} (ha : SortedL lt a) (hb : SortedL lt b) (h : ∀ x ∈ a, ∀ y ∈ b, lt y x = false) : SortedL lt (a ++ b) :=
  List.pairwise_append.2 ⟨ha, hb, h⟩
theorem sorted_take {α : Type} {lt : α → α → Bool} {l : List α} (h : SortedL lt l) (n : Nat) : SortedL lt (l.take n) := List.Pairwise.sublist (List.take_sublist n l) h
/-- one more, laid behind all that do not come behind it -/
theorem stable_insert {α : Type} {lt : α → α → Bool} (h : SWO lt) {l l' : List α} (x : α) (at' : Nat) (k : stableOf lt l l') (h1 : ∀ y ∈ l'.drop at', lt x y = true) (h2 : ∀ y ∈ l'.take at', lt x y = false) :
    stableOf lt (l ++ [x]) (l'.take at' ++ [x] ++ l'.drop at') := by
  have hsplit : l'.take at' ++ l'.drop at' = l' := List.take_append_drop _ _
  have hsrt := k.1
  unfold SortedL at hsrt
  rw [← hsplit, List.pairwise_append] at hsrt
  refine ⟨?_, fun z => ?_⟩
  · refine sorted_append (sorted_append hsrt.1 (List.pairwise_singleton _ _) ?_) hsrt.2.1 ?_
    · intro a ha b hb
      obtain rfl : b = x := by simpa using hb
      exact h2 a ha
    · intro a ha b hb
      rcases List.mem_append.1 ha with ha | ha
      · exact hsrt.2.2 a ha b hb
      · obtain rfl : a = x := by simpa using ha
        cases hx : lt b a
        · rfl
        · have h3 := h.trans _ _ _ (h1 b hb) hx
          rw [h.irrefl] at h3
          exact absurd h3 (by simp)
  · have hc := stabL_cross h (l'.take at') (l'.drop at') [x] [] (fun a ha b hb => by
      obtain rfl : b = x := by simpa using hb
      exact h1 a ha) z
    simp only [List.append_nil] at hc
    rw [hc, hsplit, List.filter_append, k.2 z, List.filter_append]

section
variable {α : Type} [Inhabited α]
def stSort (lt : α → α → Bool) (l : List α) : List α := (insertionSort lt l.toArray 0 l.toArray.size).toList
theorem stSort_stable {lt : α → α → Bool} (h : SWO lt) (l : List α) : stableOf lt l (stSort lt l) := insertion_stable h l.toArray
theorem stSort_eq {lt : α → α → Bool} (h : SWO lt) {l l' : List α} (k : stableOf lt l l') : l' = stSort lt l := by
  have hs := stSort_stable h l
  exact sorted_unique h _ _ hs.1 k.1 (fun x => (k.2 x).trans (hs.2 x).symm)
theorem stSort_mem {lt : α → α → Bool} (h : SWO lt) (l : List α) (x : α) : x ∈ stSort lt l ↔ x ∈ l := by
  have hs := stSort_stable h l
  have e := hs.2 x
  constructor
  · exact stab_mem h hs.2 x
  · intro hx
    have : x ∈ l.filter (eqv lt x) := List.mem_filter.2 ⟨hx, eqv_refl h x⟩
    rw [← e] at this
    exact (List.mem_filter.1 this).1
/-- what is sorted stands as it is -/
theorem stSort_sorted {lt : α → α → Bool} (h : SWO lt) {l : List α} (k : SortedL lt l) : stSort lt l = l := (stSort_eq h ⟨k, StabL.refl _ _⟩).symm
end

/-- the newest first -/
def newer (a b : Ev) : Bool := decide (b.dot.seq < a.dot.seq)
theorem swo_newerE : SWO newer where
  irrefl x := by simp [newer]
  trans x y z h1 h2 := by simp only [newer, decide_eq_true_eq] at *; omega
  ntrans x y z h1 h2 := by simp only [newer, decide_eq_false_iff_not] at *; omega
def isSample (work node : Int) (e : Ev) : Bool := e.kind == 1 && e.work == work && e.dot.node == node
/-- all samples of a node, the newest first -/
def samples (evs : List Ev) (work node : Int) : List Ev := stSort newer (evs.filter (isSample work node))
def cutN (size : Int) (n : Nat) : Nat := (within size 0 n).toNat
theorem cutN_le (size : Int) (n : Nat) : cutN size n ≤ n := by
  unfold cutN within
  split
  · omega
  · split <;> omega
theorem cutN_cast (size : Int) (n : Nat) : ((cutN size n : Nat) : Int) = within size 0 n := by
  unfold cutN within
  split
  · omega
  · split <;> omega
/-- the newest of them, at most so many -/
def winOf (evs : List Ev) (work node size : Int) : List Ev := (samples evs work node).take (cutN size (samples evs work node).length)
end Go.Proofs.Ytjgbflclhkeibaa
namespace Go.Proofs.Ytjgbflclhkeibaa
open Go.RowKit
set_option linter.unusedVariables false

def satAdd (a b : Int) : Int := clamp (clamp a + clamp b)
theorem satAdd_bd (a b : Int) : -1099511627776 ≤ satAdd a b ∧ satAdd a b ≤ 1099511627776 := clamp_bd _

theorem pairSum_any (a b : Int) (w : World) (h1 : -4611686018427387904 ≤ a + b) (h2 : a + b ≤ 4611686018427387904) :
    Calls Try.prog 86 #[.agg #[.int .i64 a, .int .i64 b]] w fun e w' => e = .returned (.int .i64 (a + b)) ∧ Grew w w' := by
  go_enter Try.func86, Try.ntmps86
  go_wp2
  go_ret
  exact ⟨rfl, (Grew.refl _).alloc _⟩
theorem ofSum_any (a b : Int) (w : World) :
    Calls Try.prog 52 #[.int .i64 a, .int .i64 b, .func (.func 86) #[] #[]] w fun e w' => e = .returned (.int .i64 (satAdd a b)) ∧ Grew w w' := by
  have ha := clamp_bd a
  have hb := clamp_bd b
  have hca := clamp_any a
  have hcb := clamp_any b
  unfold satAdd
  generalize clamp a = x at *
  generalize clamp b = y at *
  have hs := fun W => pairSum_any x y W (by omega) (by omega)
  have hc := clamp_any (x + y)
  generalize clamp (x + y) = z at *
  generalize x + y = s at *
  have HA := Lib.hid hca
  have HB := Lib.hid hcb
  have HS := Lib.hid hs
  have HC := Lib.hid hc
  clear hca hcb hs hc ha hb
  go_enter Try.func52, Try.ntmps52
  go_wp2_with fail
  refine (HA.out _).mono ?_
  rintro e w' ⟨rfl, rfl⟩
  go_wp2_with fail
  refine (HB.out _).mono ?_
  rintro e w' ⟨rfl, rfl⟩
  go_wp2_with fail
  refine (HS.out _).mono ?_
  rintro e w1 ⟨rfl, hg⟩
  have HG := Lib.hid hg
  clear hg
  go_wp2_with fail
  refine (HC.out _).mono ?_
  rintro e w' ⟨rfl, rfl⟩
  go_wp2
  go_ret
  exact ⟨rfl, HG.out⟩
theorem add_any (a b : Int) (w : World) :
    Calls Try.prog 65 #[.int .i64 a, .int .i64 b] w fun e w' => e = .returned (.int .i64 (satAdd a b)) ∧ Grew w w' := by
  have hs := ofSum_any a b
  generalize satAdd a b = z at hs
  have HS := Lib.hid hs
  clear hs
  go_enter Try.func65, Try.ntmps65
  go_wp2_with fail
  refine (HS.out _).mono ?_
  rintro e w1 ⟨rfl, hg⟩
  have HG := Lib.hid hg
  clear hg
  go_wp2
  go_ret
  exact ⟨rfl, HG.out⟩
/-- a block with a sum and a count -/
def Tot (w : World) (b : Nat) (s n : Int) : Prop := ∃ e, w.heap[b]? = some (.cells #[.int .i64 s, .int .i64 n] e (0, 0))
theorem Tot.read {w : World} {b : Nat} {s n : Int} (h : Tot w b s n) : w.cell? ⟨b, 0, none⟩ = some (.int .i64 s) ∧ w.cell? ⟨b, 1, none⟩ = some (.int .i64 n) ∧ w.frozen? ⟨b, 0, none⟩ = false ∧ w.frozen? ⟨b, 1, none⟩ = false ∧ b < w.heap.size := by
  obtain ⟨e, h⟩ := h
  refine ⟨?_, ?_, ?_, ?_, (Array.getElem?_eq_some_iff.1 h).1⟩ <;> simp [World.cell?, World.frozen?, h]
theorem Tot.keep {w w' : World} {b : Nat} {s n : Int} (h : Tot w b s n) (hk : w'.heap[b]? = w.heap[b]?) : Tot w' b s n := by
  obtain ⟨e, h⟩ := h
  exact ⟨e, hk.trans h⟩
theorem Tot.below {w w' : World} {b : Nat} {s n : Int} (h : Tot w b s n) (hb : Below w.heap.size w w') : Tot w' b s n := h.keep (hb.block b h.read.2.2.2.2)
/-- one block alone may have been turned -/
structure Exc (b : Nat) (w w' : World) : Prop where
  os : w'.os = w.os
  tape : w'.tape = w.tape
  output : w'.output = w.output
  size : w.heap.size ≤ w'.heap.size
  block : ∀ k, k < w.heap.size → k ≠ b → w'.heap[k]? = w.heap[k]?
theorem Exc.refl (b : Nat) (w : World) : Exc b w w := ⟨rfl, rfl, rfl, Nat.le_refl _, fun _ _ _ => rfl⟩
theorem Exc.trans {b : Nat} {u v w : World} (h : Exc b u v) (k : Exc b v w) : Exc b u w :=
  ⟨k.os.trans h.os, k.tape.trans h.tape, k.output.trans h.output, Nat.le_trans h.size k.size, fun i hi hb => (k.block i (Nat.lt_of_lt_of_le hi h.size) hb).trans (h.block i hi hb)⟩
theorem Exc.of {b : Nat} {w w' : World} (h : Below w.heap.size w w') : Exc b w w' := ⟨h.os, h.tape, h.output, h.size, fun k hk _ => h.block k hk⟩
theorem Exc.below {b B : Nat} {w w' : World} (h : Exc b w w') (hB : B ≤ w.heap.size) (hb : B ≤ b) : Below B w w' := ⟨h.os, h.tape, h.output, h.size, fun k hk => h.block k (by omega) (by omega)⟩
theorem totAdd_any (b : Nat) (s n x : Int) (w : World) (h : Tot w b s n) (hn1 : 0 ≤ n) (hn2 : n ≤ 4611686018427387904) :
    Calls Try.prog 50 #[.pointer (some ⟨b, 0, none⟩), .int .i64 x] w fun e w' => e = .returned (.tuple #[]) ∧ Tot w' b (satAdd s x) (n + 1) ∧ Exc b w w' := by
  have hs := add_any s x
  generalize satAdd s x = z at hs
  have HS := Lib.hid hs
  have HT := Lib.hid h
  obtain ⟨c0, c1, z0, z1, hb⟩ := h.read
  clear hs h
  go_enter Try.func50, Try.ntmps50
  go_wp2_with fail
  refine (HS.out _).mono ?_
  rintro e w1 ⟨rfl, hg⟩
  obtain ⟨hcell, hfr⟩ := bcell hg.below
  have hz : w.heap.size ≤ w1.heap.size := hg.below.size
  have HG := Lib.hid hg
  clear hg
  go_wp2_with fail
  go_end0
  refine ⟨rfl, ?_, ?_⟩
  · obtain ⟨e, he⟩ := HT.out
    have he1 := (HG.out.below.block b hb).trans he
    refine ⟨e, ?_⟩
    simp [World.setCell, Array.getElem?_modify, he1]
  · have h1 : Exc b w w1 := Exc.of HG.out.below
    refine ⟨h1.os, h1.tape, h1.output, by simp [World.setCell]; exact h1.size, fun k hk hne => ?_⟩
    rw [Below.heap_setCell _ _ _ _ hne, Below.heap_setCell _ _ _ _ hne]
    exact h1.block k hk hne
end Go.Proofs.Ytjgbflclhkeibaa
namespace Go.Proofs.Ytjgbflclhkeibaa
open Go.RowKit Go.Lib Go.Sort
set_option linter.unusedVariables false

theorem Acc.take {B e ed : Nat} {w : World} {oa : Option Addr} {n cap : Nat} {qs : List PEv} (h : Acc B e ed w (.slice oa n cap) qs) (m : Nat) (hm : m ≤ qs.length) : Acc B e ed w (.slice oa m cap) (qs.take m) := by
  refine ⟨h.row.take pcells_len m hm, fun q hq => ?_⟩
  have h1 := h.rem q (List.mem_of_mem_take hq)
  exact ⟨h1.1, by cases oa <;> exact h1.2⟩

end Go.Proofs.Ytjgbflclhkeibaa
namespace Go.Proofs.Ytjgbflclhkeibaa
open Go.Shelf Go.RowKit Go.Lib Go.Sort
set_option linter.unusedVariables false

def OfPost (ps : List PEv) (work node size : Int) (w : World) (e : Ending) (w' : World) : Prop :=
  ∃ v qs, e = .returned v ∧ qs.length ≤ ps.length ∧ qs.map (·.2) = winOf (ps.map (·.2)) work node size ∧ Acc w.heap.size 36 33 w' v qs ∧ Below w.heap.size w w'

set_option maxHeartbeats 8000000 in
theorem of_any (oa : Option Addr) (cap : Nat) (ps : List PEv) (work node size : Int) (w : World) (h : EvsAt w (.slice oa ps.length cap) ps) (hl : ps.length ≤ 1000000) (hr : ∀ p ∈ ps, p.2.rem.length ≤ 1000000) :
    Calls Try.prog 66 #[.slice oa ps.length cap, .int .i64 work, .int .i64 node, .int .i64 size] w (OfPost ps work node size w) := by
  have HE := Lib.hid h
  have HR := Lib.hid hr
  clear h hr
  go_enter Try.func66, Try.ntmps66
  go_wp2_with fail
  go_loopg [9, 15] ps.length (fun gk s5 s13 wr => ∃ (i : Nat) (oq : Option Addr) (cq : Nat) (qs : List PEv), s13 = .int .i64 i ∧ s5 = .slice oq qs.length cq ∧ i ≤ ps.length ∧ ps.length - i ≤ gk ∧ qs.length ≤ i ∧ Hid (Acc w.heap.size 36 33 wr (.slice oq qs.length cq) qs) ∧ Hid (qs.map (·.2) = ((ps.take i).map (·.2)).filter (isSample work node)) ∧ Hid (Below w.heap.size w wr))
  case atStart => exact ⟨0, none, 0, [], rfl, rfl, Nat.zero_le _, Nat.le_refl _, Nat.le_refl _, Acc.nil _ _ _ _, by show _ = _; simp, Below.refl _ _⟩
  case round =>
    obtain ⟨i, oq, cq, qs, rfl, rfl, hi, hg, hqi, HO, HQ, HB⟩ := hrel
    by_cases hlt : i < ps.length
    · have hltz : (i : Int) < (ps.length : Int) := by omega
      have hsl : SlAt pcells wr (.slice oa ps.length cap) ps := HE.out.1.below pcells_len (by decide) HB.out (Nat.le_refl _)
      obtain ⟨b, off, rfl⟩ := slAt_some hsl i hlt
      obtain ⟨ra, rn, rc, ev, hp, c0, c1, c2, c3, c4, c5, c6, c7, c8, c9, c10, c11, c12, c13⟩ := hsl.ev i hlt
      have hmem : (⟨⟨ra, rn, rc⟩, ev⟩ : PEv) ∈ ps := List.mem_of_getElem? hp
      have hrem : SlAt Dot.cells wr (.slice ra rn rc) ev.rem := (HE.out.2 _ hmem).below Dot.cells_len (by decide) HB.out (Nat.le_refl _)
      have hrl : ev.rem.length ≤ 1000000 := HR.out _ hmem
      have htf := take_filter (isSample work node) ps i _ hp
      have HREM := Lib.hid hrem
      have HTF := Lib.hid htf
      clear hsl hp hmem hrem htf
      by_cases hk : (ev.kind == 1) = true
      · by_cases hw : (ev.work == work) = true
        · by_cases hn : (ev.dot.node == node) = true
          · have his : Hid (isSample work node ev = true) := by show _ = _; unfold isSample; rw [hk, hw, hn]; rfl
            go_wp2_with fail
            refine (cloneDot_any _ ev.rem _ (HREM.out.below Dot.cells_len (by decide) ((Below.refl _ _).alloc (Nat.le_refl _) _) (Nat.le_refl _)) hrl).mono ?_
            rintro e w1 ⟨⟨ha, hn, hc⟩, rfl, hown, hb⟩
            obtain ⟨hcell, hfr⟩ := bcell hb
            have hz : wr.heap.size < w1.heap.size := by have := hb.size; simp at this; omega
            have HOWN := Lib.hid hown
            have HB1 := Lib.hid hb
            clear hown hb
            simp only [Hdr.val]
            go_wp2_with (at_builtin; go_loud (refine wpList_app pcells 14 pcells_len (by decide) pcells_one _ rfl _ _ 28 rfl w.heap.size 36 _ 128 Try.underlying28 infoEv rfl _ qs rfl ?h1 _ [(⟨ha, hn, hc⟩, ev)] rfl ?h2 ?h3 ?h4 ?h5 ?_))
            case h1 => exact HO.out.row.below (round_below rfl HB1.out) (Nat.le_refl _)
            case h2 =>
              have hn := slAt_new (enc := pcells) (w1.setCell ⟨wr.heap.size, 13, none⟩ (.slice ha hn hc)) (pcells (⟨ha, hn, hc⟩, ev)).toArray 36 1 1 (0, 0) [(⟨ha, hn, hc⟩, ev)] rfl rfl (by decide)
              rw [World.size_setCell] at hn
              exact hn
            case h3 => simp only [List.length_cons, List.length_nil]; omega
            case h4 => simp only [List.length_cons, List.length_nil]; omega
            case h5 => exact Nat.le_trans HB.out.size (round_below rfl HB1.out).size
            intro v' w' hown2 hg2 hv2
            obtain ⟨hacc, hbb⟩ := acc_round rfl HB.out.size HO.out HB1.out HOWN.out hown2 hg2 hv2
            obtain ⟨oq', cq', hv'⟩ := slAt_slice hown2.at
            rw [hv'] at hacc ⊢
            have HACC := Lib.hid hacc
            have HBB := Lib.hid hbb
            clear hacc hbb hown2 hg2 hv2 hcell hfr
            go_wp2_with fail
            go_roundg (ps.length - (i + 1))
            case measure => omega
            case rel => exact ⟨i + 1, oq', cq', qs ++ [((⟨ha, hn, hc⟩ : Hdr), ev)], by go_num, rfl, by omega, Nat.le_refl _, by simp only [List.length_append, List.length_cons, List.length_nil]; omega, HACC, by show _ = _; rw [HTF.out, his.out, List.map_append, HQ.out]; rfl, HB.out.trans HBB.out⟩
          · have hn' : (ev.dot.node == node) = false := by simpa using hn
            have his : Hid (isSample work node ev = false) := by show _ = _; unfold isSample; rw [hn', Bool.and_false]
            clear hn
            go_wp2_with fail
            go_roundg (ps.length - (i + 1))
            case measure => omega
            case rel => exact ⟨i + 1, oq, cq, qs, by go_num, rfl, by omega, Nat.le_refl _, by omega, HO.out.below ((Below.refl _ _).alloc (Nat.le_refl _) _) (Nat.le_refl _), by show _ = _; rw [HTF.out, his.out, HQ.out]; simp, HB.out.trans ((Below.refl _ _).alloc HB.out.size _)⟩
        · have hw' : (ev.work == work) = false := by simpa using hw
          have his : Hid (isSample work node ev = false) := by show _ = _; unfold isSample; rw [hw', Bool.and_false, Bool.false_and]
          clear hw
          go_wp2_with fail
          go_roundg (ps.length - (i + 1))
          case measure => omega
          case rel => exact ⟨i + 1, oq, cq, qs, by go_num, rfl, by omega, Nat.le_refl _, by omega, HO.out.below ((Below.refl _ _).alloc (Nat.le_refl _) _) (Nat.le_refl _), by show _ = _; rw [HTF.out, his.out, HQ.out]; simp, HB.out.trans ((Below.refl _ _).alloc HB.out.size _)⟩
      · have hk' : (ev.kind == 1) = false := by simpa using hk
        have his : Hid (isSample work node ev = false) := by show _ = _; unfold isSample; rw [hk', Bool.false_and, Bool.false_and]
        clear hk
        go_wp2_with fail
        go_roundg (ps.length - (i + 1))
        case measure => omega
        case rel => exact ⟨i + 1, oq, cq, qs, by go_num, rfl, by omega, Nat.le_refl _, by omega, HO.out.below ((Below.refl _ _).alloc (Nat.le_refl _) _) (Nat.le_refl _), by show _ = _; rw [HTF.out, his.out, HQ.out]; simp, HB.out.trans ((Below.refl _ _).alloc HB.out.size _)⟩
    · have hltz : ¬ (i : Int) < (ps.length : Int) := by omega
      obtain rfl : i = ps.length := by omega
      have hq2 : Hid (qs.map (·.2) = (ps.map (·.2)).filter (isSample work node)) := by show _ = _; rw [HQ.out, List.take_length]
      have eg : ∀ args w, (callFunc 87 args).run Try.prog w = .ok (.enter 87 args) w := enters_of Try.func87 (by kernel_rfl) rfl
      have hsort := sortStableEv pcells pcells_len pcells_one cmpNewer swo_newer 87 #[] w.heap.size 36 _ qs wr eg (fun W x y => newer_any x y W) HO.out.row (by omega)
      have HS := Lib.hid hsort
      clear hsort eg
      go_wp2_with fail
      refine HS.out.mono ?_
      rintro e w1 ⟨rfl, ls, hso, hll, hown, hg⟩
      have hacc : Acc w.heap.size 36 33 w1 (.slice oq qs.length cq) ls := HO.out.perm hown hg (stab_mem swo_newer hso.2)
      have hb1 : Below w.heap.size w w1 := HB.out.grown hg HB.out.size fun k hk => (HO.out.row.lt k hk).1
      have hst : ls.map (·.2) = samples (ps.map (·.2)) work node := by unfold samples; rw [← hq2.out]; exact stSort_eq swo_newerE (stable_map (fun x y => by rw [ltOf_newer]; rfl) hso)
      have hcap : qs.length ≤ cq := by obtain ⟨_, _, hv, hc⟩ := hacc.row.at.slice_of; simp only [Value.slice.injEq] at hv; omega
      have hres : OfPost ps work node size w (.returned (.slice oq (cutN size qs.length) cq)) w1 := by
        have hle := cutN_le size qs.length
        refine ⟨_, ls.take (cutN size qs.length), rfl, by rw [List.length_take]; omega, ?_, ?_, hb1⟩
        · rw [List.map_take, hst]; unfold winOf; rw [← hst, List.length_map, hll]
        · exact hacc.take _ (by omega)
      have hw0 := within_any size 0 qs.length
      have hnil : oq = none → cq = 0 := by
        obtain ⟨oa', c', hv, _, hn, _⟩ := hacc.row.at
        simp only [Value.slice.injEq] at hv
        obtain ⟨rfl, _, rfl⟩ := hv
        exact hn
      have hle := cutN_le size qs.length
      rw [← cutN_cast] at hw0
      have HW0 := Lib.hid hw0
      have HRES := Lib.hid hres
      clear hacc hb1 hst hso hown hg HO HB HQ hq2 HS hqi hw0 hres
      generalize cutN size qs.length = k at *
      go_wp2_with fail
      refine (HW0.out _).mono ?_
      rintro e w' ⟨rfl, rfl⟩
      cases oq with
      | none =>
        obtain rfl := hnil rfl
        obtain rfl : k = 0 := by omega
        go_wp2_with fail
        go_ret
        exact HRES.out
      | some a =>
        clear hnil
        go_wp2_with fail
        go_ret
        exact HRES.out
end Go.Proofs.Ytjgbflclhkeibaa
