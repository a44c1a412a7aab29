/-
  The reference's Great, Copy, Copies, and Dots, Same, All where both sides are the same.
-/
import Derived.Test.YtenkfnhcdfmkaaaGreatMAcc
import Derived.Deep.QuietTactic
import Derived.BigQuiet
namespace Go.Proofs.YtenkfnhcdfmkaaaGreat
open Go.Shelf Go.RowKit Go.Lib Go.Sort
set_option linter.unusedVariables false
def bulk : List Ev → Nat
 | [] => 0
 | e :: l => 1 + e.rem.length + bulk l
theorem bulk_append (a b : List Ev) : bulk (a ++ b) = bulk a + bulk b := by
 induction a with
 | nil => simp [bulk]
 | cons x a ih => simp only [List.cons_append, bulk, ih]; omega
theorem bulk_len (l : List Ev) : l.length ≤ bulk l := by
 induction l with
 | nil => simp [bulk]
 | cons x a ih => simp only [List.length_cons, bulk]; omega
theorem bulk_mem (l : List Ev) (e : Ev) (h : e ∈ l) : e.rem.length ≤ bulk l := by
 induction l with
 | nil => cases h
 | cons x a ih =>
  simp only [bulk]
  rcases List.mem_cons.1 h with rfl | h
  ·omega
  ·have := ih h; omega
theorem bulk_take (ps : List PEv) (i : Nat) (p : PEv) (hp : ps[i]? = some p) : bulk ((ps.take (i + 1)).map (·.2)) = bulk ((ps.take i).map (·.2)) + (1 + p.2.rem.length) := by
 rw [List.take_succ_eq_append_getElem (List.getElem?_eq_some_iff.1 hp).1, (List.getElem?_eq_some_iff.1 hp).2, List.map_append, bulk_append]
 simp [bulk]
theorem bulk_le (ps : List PEv) (i : Nat) : bulk ((ps.take i).map (·.2)) ≤ bulk (ps.map (·.2)) := by
 have : ps.map (·.2) = (ps.take i).map (·.2) ++ (ps.drop i).map (·.2) := by rw [← List.map_append, List.take_append_drop]
 rw [this, bulk_append]; omega
set_option maxHeartbeats 4000000 in
theorem great_any (oa : Option Addr) (cap : Nat) (ps : List PEv) (w : World) (h : EvsAt w (.slice oa ps.length cap) ps) (hl : ps.length ≤ 1099511627776) (hr : ∀ p ∈ ps, p.2.rem.length ≤ 8796093022208) :
  Calls Tryz.prog 29 #[.slice oa ps.length cap] w fun e w' => e = .returned (.bool (decide (3000 < bulk (ps.map (·.2))))) ∧ Below w.heap.size w w' := by
 have HE := Lib.hid h
 have HR := Lib.hid hr
 clear h hr
 go_enter Tryz.func29, Tryz.ntmps29
 go_wp2_with fail
 go_loopg [3, 8] ps.length (fun gk s3 s8 wr => ∃ (i : Nat) (n : Int), s8 = .int .i64 i ∧ s3 = .int .i64 n ∧ i ≤ ps.length ∧ ps.length - i ≤ gk ∧ 0 ≤ n ∧ n ≤ 3000 ∧ Hid (n = (bulk ((ps.take i).map (·.2)) : Nat)) ∧ Hid (Below w.heap.size w wr))
 case atStart => exact ⟨0, 0, rfl, rfl, Nat.zero_le _, Nat.le_refl _, by decide, by decide, by show _ = _; simp [bulk], Below.refl _ _⟩
 case round =>
  obtain ⟨i, n, rfl, rfl, hi, hg, hn0, hn1, HN, HB⟩ := hrel
  by_cases hlt : i < ps.length
  ·have hltz : (i : Int) < (ps.length : Int) := by omega
   have hsl : SlAt pcells wr (.slice oa ps.length cap) ps := HE.out.1.below pcells_len (by decide) HB.out (Nat.le_refl _)
   obtain ⟨b, off, rfl⟩ := slAt_some hsl i hlt
   obtain ⟨ra, rn, rc, ev, hp, c0, c1, c2, c3, c4, c5, c6, c7, c8, c9, c10, c11, c12, c13⟩ := hsl.ev i hlt
   have hmem : (⟨⟨ra, rn, rc⟩, ev⟩ : PEv) ∈ ps := List.mem_of_getElem? hp
   have hrl : ev.rem.length ≤ 8796093022208 := HR.out _ hmem
   have hrn : rn = ev.rem.length := by
    obtain ⟨_, _, hv, _⟩ := (HE.out.2 _ hmem).slice_of
    simp only [Hdr.val, Value.slice.injEq] at hv
    exact hv.2.1
   subst hrn
   have hbt := bulk_take ps i _ hp
   have hble := bulk_le ps (i + 1)
   simp only at hbt
   generalize ev.rem.length = rl at *
   have HBT := Lib.hid hbt
   have HBL := Lib.hid hble
   clear hsl hp hmem hbt hble
   by_cases h3 : 3000 < n + (1 + (rl : Int))
   ·go_wp2_with fail
    go_ret
    have e1 := HN.out
    have e2 := HBT.out
    have e3 := HBL.out
    refine ⟨?_, HB.out.trans ((Below.refl _ _).alloc HB.out.size _)⟩
    rw [decide_eq_true (by omega)]
    rfl
   ·go_wp2_with fail
    go_roundg (ps.length - (i + 1))
    case measure => omega
    case rel => exact ⟨i + 1, n + (1 + (rl : Int)), by go_num, by go_num, by omega, Nat.le_refl _, by omega, by omega, by have e1 := HN.out; have e2 := HBT.out; show _ = _; omega, HB.out.trans ((Below.refl _ _).alloc HB.out.size _)⟩
  ·have hltz : ¬ (i : Int) < (ps.length : Int) := by omega
   obtain rfl : i = ps.length := by omega
   go_wp2_with fail
   go_ret
   have e1 := HN.out
   rw [List.take_length] at e1
   refine ⟨?_, HB.out⟩
   rw [decide_eq_false (by omega)]
   rfl
end Go.Proofs.YtenkfnhcdfmkaaaGreat
