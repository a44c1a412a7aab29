/-
  The laws PolicyAsked and PolicyMore walked: each returns true, and turns nothing that was there.
-/
import Derived.Test.YtfbbafmklahmmaaAlive09
namespace Go.Proofs.Ytfbbafmklahmmaa
open Go.Shelf Go.RowKit Go.Lib Go.Sort
set_option linter.unusedVariables false
set_option maxHeartbeats 4000000 in
theorem lawAsked (p : Pol) (load : Int) (w : World) : Calls Try.prog 7 #[.agg #[.int .i64 p.mn, .int .i64 p.mx, .int .i64 p.goal, .int .i64 p.slack, .int .i64 p.up, .int .i64 p.down, .int .i64 p.cool], .int .i64 load] w fun e w' => e = .returned (.bool true) ∧ RowKit.Below w.heap.size w w' := by
  have a1 := policyAsked_any p load
  have a2 := refAsked_any p load
  generalize asked p load = r at a1 a2
  obtain ⟨n, er⟩ := r
  have A1 := Lib.hid a1
  have A2 := Lib.hid a2
  have AL := Lib.hid alive09
  clear a1 a2
  go_enter Try.func7, Try.ntmps7
  go_wp2_with fail
  refine (AL.out _).mono ?_
  rintro e w1 ⟨rfl, hb1⟩
  obtain ⟨hcell1, hfr1⟩ := bcell hb1
  have hz1 : w.heap.size < w1.heap.size := by have := hb1.size; simp at this; omega
  have HB1 := Lib.hid hb1
  clear hb1
  go_wp2_with fail
  refine (A1.out _).mono ?_
  rintro e w2 ⟨rfl, hb2⟩
  obtain ⟨hcell2, hfr2⟩ := bcell hb2
  have hz2 : w.heap.size < w2.heap.size := by have := hb2.size; omega
  have HB2 := Lib.hid hb2
  clear hb2
  go_wp2_with fail
  refine (A2.out _).mono ?_
  rintro e w3 ⟨rfl, hb3⟩
  have HB3 := Lib.hid hb3
  clear hb3
  go_wp2_with fail
  go_ret
  refine ⟨by simp, ?_⟩
  have b1 := ((RowKit.Below.refl w.heap.size w).alloc (Nat.le_refl _) _).trans (HB1.out.mono (by simp))
  have b2 := b1.trans (HB2.out.mono b1.size)
  exact b2.trans (HB3.out.mono b2.size)
end Go.Proofs.Ytfbbafmklahmmaa
