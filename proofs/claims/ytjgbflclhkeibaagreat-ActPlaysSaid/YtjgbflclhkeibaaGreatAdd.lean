/-
  sat.Add and the document's Add: both saturate at the top; (*total).add: one more number onto a sum.
-/
import Derived.Test.YtjgbflclhkeibaaGreatSat
import Derived.Test.YtjgbflclhkeibaaGreatCmp
namespace Go.Proofs.YtjgbflclhkeibaaGreat
open Go.RowKit
set_option linter.unusedVariables false

def satAdd (a b : Int) : Int := clamp (clamp a + clamp b)
theorem satAdd_bd (a b : Int) : -1099511627776 ≤ satAdd a b ∧ satAdd a b ≤ 1099511627776 := clamp_bd _

theorem pairSum_any (a b : Int) (w : World) (h1 : -4611686018427387904 ≤ a + b) (h2 : a + b ≤ 4611686018427387904) :
    Calls Tryz.prog 99 #[.agg #[.int .i64 a, .int .i64 b]] w fun e w' => e = .returned (.int .i64 (a + b)) ∧ Grew w w' := by
  go_enter Tryz.func99, Tryz.ntmps99
  go_wp2
  go_ret
  exact ⟨rfl, (Grew.refl _).alloc _⟩
theorem ofSum_any (a b : Int) (w : World) :
    Calls Tryz.prog 61 #[.int .i64 a, .int .i64 b, .func (.func 99) #[] #[]] w fun e w' => e = .returned (.int .i64 (satAdd a b)) ∧ Grew w w' := by
  have ha := clamp_bd a
  have hb := clamp_bd b
  have hca := clamp_any a
  have hcb := clamp_any b
  unfold satAdd
  generalize clamp a = x at *
  generalize clamp b = y at *
  have hs := fun W => pairSum_any x y W (by omega) (by omega)
  have hc := clamp_any (x + y)
  generalize clamp (x + y) = z at *
  generalize x + y = s at *
  have HA := Lib.hid hca
  have HB := Lib.hid hcb
  have HS := Lib.hid hs
  have HC := Lib.hid hc
  clear hca hcb hs hc ha hb
  go_enter Tryz.func61, Tryz.ntmps61
  go_wp2_with fail
  refine (HA.out _).mono ?_
  rintro e w' ⟨rfl, rfl⟩
  go_wp2_with fail
  refine (HB.out _).mono ?_
  rintro e w' ⟨rfl, rfl⟩
  go_wp2_with fail
  refine (HS.out _).mono ?_
  rintro e w1 ⟨rfl, hg⟩
  have HG := Lib.hid hg
  clear hg
  go_wp2_with fail
  refine (HC.out _).mono ?_
  rintro e w' ⟨rfl, rfl⟩
  go_wp2
  go_ret
  exact ⟨rfl, HG.out⟩
theorem add_any (a b : Int) (w : World) :
    Calls Tryz.prog 82 #[.int .i64 a, .int .i64 b] w fun e w' => e = .returned (.int .i64 (satAdd a b)) ∧ Grew w w' := by
  have hs := ofSum_any a b
  generalize satAdd a b = z at hs
  have HS := Lib.hid hs
  clear hs
  go_enter Tryz.func82, Tryz.ntmps82
  go_wp2_with fail
  refine (HS.out _).mono ?_
  rintro e w1 ⟨rfl, hg⟩
  have HG := Lib.hid hg
  clear hg
  go_wp2
  go_ret
  exact ⟨rfl, HG.out⟩
theorem refAdd_any (a b : Int) (w : World) :
    Calls Tryz.prog 50 #[.int .i64 a, .int .i64 b] w fun e w' => e = .returned (.int .i64 (satAdd a b)) ∧ w = w' := by
  have ha := clamp_bd a
  have hb := clamp_bd b
  have hca := refClamp_any a
  have hcb := refClamp_any b
  unfold satAdd
  generalize clamp a = x at *
  generalize clamp b = y at *
  obtain ⟨ha1, ha2⟩ := ha
  obtain ⟨hb1, hb2⟩ := hb
  have hc := refClamp_any (x + y)
  generalize clamp (x + y) = z at *
  have HA := Lib.hid hca
  have HB := Lib.hid hcb
  have HC := Lib.hid hc
  clear hca hcb hc
  go_enter Tryz.func50, Tryz.ntmps50
  go_wp2_with fail
  refine (HA.out _).mono ?_
  rintro e w' ⟨rfl, rfl⟩
  go_wp2_with fail
  refine (HB.out _).mono ?_
  rintro e w' ⟨rfl, rfl⟩
  go_wp2_with fail
  refine (HC.out _).mono ?_
  rintro e w' ⟨rfl, rfl⟩
  go_wp2
  go_ret
  exact ⟨rfl, rfl⟩
/-- a block with a sum and a count -/
def Tot (w : World) (b : Nat) (s n : Int) : Prop := ∃ e, w.heap[b]? = some (.cells #[.int .i64 s, .int .i64 n] e (0, 0))
theorem Tot.read {w : World} {b : Nat} {s n : Int} (h : Tot w b s n) : w.cell? ⟨b, 0, none⟩ = some (.int .i64 s) ∧ w.cell? ⟨b, 1, none⟩ = some (.int .i64 n) ∧ w.frozen? ⟨b, 0, none⟩ = false ∧ w.frozen? ⟨b, 1, none⟩ = false ∧ b < w.heap.size := by
  obtain ⟨e, h⟩ := h
  refine ⟨?_, ?_, ?_, ?_, (Array.getElem?_eq_some_iff.1 h).1⟩ <;> simp [World.cell?, World.frozen?, h]
theorem Tot.keep {w w' : World} {b : Nat} {s n : Int} (h : Tot w b s n) (hk : w'.heap[b]? = w.heap[b]?) : Tot w' b s n := by
  obtain ⟨e, h⟩ := h
  exact ⟨e, hk.trans h⟩
theorem Tot.below {w w' : World} {b : Nat} {s n : Int} (h : Tot w b s n) (hb : Below w.heap.size w w') : Tot w' b s n := h.keep (hb.block b h.read.2.2.2.2)
/-- one block alone may have been turned -/
structure Exc (b : Nat) (w w' : World) : Prop where
  os : w'.os = w.os
  tape : w'.tape = w.tape
  output : w'.output = w.output
  size : w.heap.size ≤ w'.heap.size
  block : ∀ k, k < w.heap.size → k ≠ b → w'.heap[k]? = w.heap[k]?
theorem Exc.refl (b : Nat) (w : World) : Exc b w w := ⟨rfl, rfl, rfl, Nat.le_refl _, fun _ _ _ => rfl⟩
theorem Exc.trans {b : Nat} {u v w : World} (h : Exc b u v) (k : Exc b v w) : Exc b u w :=
  ⟨k.os.trans h.os, k.tape.trans h.tape, k.output.trans h.output, Nat.le_trans h.size k.size, fun i hi hb => (k.block i (Nat.lt_of_lt_of_le hi h.size) hb).trans (h.block i hi hb)⟩
theorem Exc.of {b : Nat} {w w' : World} (h : Below w.heap.size w w') : Exc b w w' := ⟨h.os, h.tape, h.output, h.size, fun k hk _ => h.block k hk⟩
theorem Exc.below {b B : Nat} {w w' : World} (h : Exc b w w') (hB : B ≤ w.heap.size) (hb : B ≤ b) : Below B w w' := ⟨h.os, h.tape, h.output, h.size, fun k hk => h.block k (by omega) (by omega)⟩
theorem totAdd_any (b : Nat) (s n x : Int) (w : World) (h : Tot w b s n) (hn1 : 0 ≤ n) (hn2 : n ≤ 4611686018427387904) :
    Calls Tryz.prog 59 #[.pointer (some ⟨b, 0, none⟩), .int .i64 x] w fun e w' => e = .returned (.tuple #[]) ∧ Tot w' b (satAdd s x) (n + 1) ∧ Exc b w w' := by
  have hs := add_any s x
  generalize satAdd s x = z at hs
  have HS := Lib.hid hs
  have HT := Lib.hid h
  obtain ⟨c0, c1, z0, z1, hb⟩ := h.read
  clear hs h
  go_enter Tryz.func59, Tryz.ntmps59
  go_wp2_with fail
  refine (HS.out _).mono ?_
  rintro e w1 ⟨rfl, hg⟩
  obtain ⟨hcell, hfr⟩ := bcell hg.below
  have hz : w.heap.size ≤ w1.heap.size := hg.below.size
  have HG := Lib.hid hg
  clear hg
  go_wp2_with fail
  go_end0
  refine ⟨rfl, ?_, ?_⟩
  · obtain ⟨e, he⟩ := HT.out
    have he1 := (HG.out.below.block b hb).trans he
    refine ⟨e, ?_⟩
    simp [World.setCell, Array.getElem?_modify, he1]
  · have h1 : Exc b w w1 := Exc.of HG.out.below
    refine ⟨h1.os, h1.tape, h1.output, by simp [World.setCell]; exact h1.size, fun k hk hne => ?_⟩
    rw [Below.heap_setCell _ _ _ _ hne, Below.heap_setCell _ _ _ _ hne]
    exact h1.block k hk hne
end Go.Proofs.YtjgbflclhkeibaaGreat
