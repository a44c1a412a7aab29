/-
  The reference's Great, Copy, Copies, and Dots, Same, All where both sides are the same.
-/
import Derived.Test.YtenkfnhcdfmkaaaGreatMAcc
import Derived.Deep.QuietTactic
import Derived.BigQuiet
namespace Go.Proofs.YtenkfnhcdfmkaaaGreat
open Go.Shelf Go.RowKit Go.Lib Go.Sort
set_option linter.unusedVariables false
def bulk : List Ev → Nat
 | [] => 0
 | e :: l => 1 + e.rem.length + bulk l
theorem bulk_append (a b : List Ev) : bulk (a ++ b) = bulk a + bulk b := by
 induction a with
 | nil => simp [bulk]
 | cons x a ih => simp only [List.cons_append, bulk, ih]; omega
theorem bulk_mem (l : List Ev) (e : Ev) (h : e ∈ l) : e.rem.length ≤ bulk l := by
 induction l with
 | nil => cases h
 | cons x a ih =>
  simp only [bulk]
  rcases List.mem_cons.1 h with rfl | h
  ·omega
  ·have := ih h; omega
theorem bulk_take (ps : List PEv) (i : Nat) (p : PEv) (hp : ps[i]? = some p) : bulk ((ps.take (i + 1)).map (·.2)) = bulk ((ps.take i).map (·.2)) + (1 + p.2.rem.length) := by
 rw [List.take_succ_eq_append_getElem (List.getElem?_eq_some_iff.1 hp).1, (List.getElem?_eq_some_iff.1 hp).2, List.map_append, bulk_append]
 simp [bulk]
theorem bulk_le (ps : List PEv) (i : Nat) : bulk ((ps.take i).map (·.2)) ≤ bulk (ps.map (·.2)) := by
 have : ps.map (·.2) = (ps.take i).map (·.2) ++ (ps.drop i).map (·.2) := by rw [← List.map_append, List.take_append_drop]
 rw [this, bulk_append]; omega
set_option maxHeartbeats 4000000 in
theorem great_any (oa : Option Addr) (cap : Nat) (ps : List PEv) (w : World) (h : EvsAt w (.slice oa ps.length cap) ps) (hl : ps.length ≤ 1099511627776) (hr : ∀ p ∈ ps, p.2.rem.length ≤ 8796093022208) :
  Calls Tryz.prog 29 #[.slice oa ps.length cap] w fun e w' => e = .returned (.bool (decide (3000 < bulk (ps.map (·.2))))) ∧ Below w.heap.size w w' := by
 have HE := Lib.hid h
 have HR := Lib.hid hr
 clear h hr
 go_enter Tryz.func29, Tryz.ntmps29
 go_wp2_with fail
 go_loopg [3, 8] ps.length (fun gk s3 s8 wr => ∃ (i : Nat) (n : Int), s8 = .int .i64 i ∧ s3 = .int .i64 n ∧ i ≤ ps.length ∧ ps.length - i ≤ gk ∧ 0 ≤ n ∧ n ≤ 3000 ∧ Hid (n = (bulk ((ps.take i).map (·.2)) : Nat)) ∧ Hid (Below w.heap.size w wr))
 case atStart => exact ⟨0, 0, rfl, rfl, Nat.zero_le _, Nat.le_refl _, by decide, by decide, by show _ = _; simp [bulk], Below.refl _ _⟩
 case round =>
  obtain ⟨i, n, rfl, rfl, hi, hg, hn0, hn1, HN, HB⟩ := hrel
  by_cases hlt : i < ps.length
  ·have hltz : (i : Int) < (ps.length : Int) := by omega
   have hsl : SlAt pcells wr (.slice oa ps.length cap) ps := HE.out.1.below pcells_len (by decide) HB.out (Nat.le_refl _)
   obtain ⟨b, off, rfl⟩ := slAt_some hsl i hlt
   obtain ⟨ra, rn, rc, ev, hp, c0, c1, c2, c3, c4, c5, c6, c7, c8, c9, c10, c11, c12, c13⟩ := hsl.ev i hlt
   have hmem : (⟨⟨ra, rn, rc⟩, ev⟩ : PEv) ∈ ps := List.mem_of_getElem? hp
   have hrl : ev.rem.length ≤ 8796093022208 := HR.out _ hmem
   have hrn : rn = ev.rem.length := by
    obtain ⟨_, _, hv, _⟩ := (HE.out.2 _ hmem).slice_of
    simp only [Hdr.val, Value.slice.injEq] at hv
    exact hv.2.1
   subst hrn
   have hbt := bulk_take ps i _ hp
   have hble := bulk_le ps (i + 1)
   simp only at hbt
   generalize ev.rem.length = rl at *
   have HBT := Lib.hid hbt
   have HBL := Lib.hid hble
   clear hsl hp hmem hbt hble
   by_cases h3 : 3000 < n + (1 + (rl : Int))
   ·go_wp2_with fail
    go_ret
    have e1 := HN.out
    have e2 := HBT.out
    have e3 := HBL.out
    refine ⟨?_, HB.out.trans ((Below.refl _ _).alloc HB.out.size _)⟩
    rw [decide_eq_true (by omega)]
    rfl
   ·go_wp2_with fail
    go_roundg (ps.length - (i + 1))
    case measure => omega
    case rel => exact ⟨i + 1, n + (1 + (rl : Int)), by go_num, by go_num, by omega, Nat.le_refl _, by omega, by omega, by have e1 := HN.out; have e2 := HBT.out; show _ = _; omega, HB.out.trans ((Below.refl _ _).alloc HB.out.size _)⟩
  ·have hltz : ¬ (i : Int) < (ps.length : Int) := by omega
   obtain rfl : i = ps.length := by omega
   go_wp2_with fail
   go_ret
   have e1 := HN.out
   rw [List.take_length] at e1
   refine ⟨?_, HB.out⟩
   rw [decide_eq_false (by omega)]
   rfl
set_option maxHeartbeats 4000000 in
theorem dots_any (oa ob : Option Addr) (ca cb : Nat) (ds : List Dot) (w : World) (h1 : SlAt Dot.cells w (.slice oa ds.length ca) ds) (h2 : SlAt Dot.cells w (.slice ob ds.length cb) ds) (hl : ds.length ≤ 1000000) :
  Calls Tryz.prog 74 #[.slice oa ds.length ca, .slice ob ds.length cb] w fun e w' => e = .returned (.bool true) ∧ Grew w w' := by
 have H1 := Lib.hid h1
 have H2 := Lib.hid h2
 clear h1 h2
 go_enter Tryz.func74, Tryz.ntmps74
 go_wp2_with fail
 go_loopg [13] ds.length (fun gk s13 wr => ∃ (i : Nat) (q : Nat), s13 = .int .i64 i ∧ i ≤ ds.length ∧ ds.length - i ≤ gk ∧ wr = w.drewN q)
 case atStart => exact ⟨0, 0, rfl, Nat.zero_le _, Nat.le_refl _, rfl⟩
 case round =>
  obtain ⟨i, q, rfl, hi, hg, rfl⟩ := hrel
  by_cases hlt : i < ds.length
  ·have hltz : (i : Int) < (ds.length : Int) := by omega
   obtain ⟨b, off, rfl⟩ := H1.out.plain Dot.cells_len (by decide) (by intro e; rw [e] at hlt; exact absurd hlt (by simp))
   obtain ⟨b2, off2, rfl⟩ := H2.out.plain Dot.cells_len (by decide) (by intro e; rw [e] at hlt; exact absurd hlt (by simp))
   obtain ⟨d, hd, c0, c1⟩ := H1.out.dot i hlt
   obtain ⟨d2, hd2, k0, k1⟩ := H2.out.dot i hlt
   obtain rfl : d = d2 := by rw [hd] at hd2; exact Option.some.inj hd2
   clear hd hd2
   go_wp2_with fail
   go_quiet (fail)
   go_wp2_with fail
   go_roundg (ds.length - (i + 1))
   case measure => omega
   case rel => exact ⟨i + 1, q + nq, by go_num, by omega, Nat.le_refl _, rfl⟩
  ·have hltz : ¬ (i : Int) < (ds.length : Int) := by omega
   obtain rfl : i = ds.length := by omega
   go_wp2_with fail
   go_ret
   exact ⟨rfl, q, #[], by rw [grow_empty]⟩
set_option maxHeartbeats 4000000 in
theorem same_any (h1 h2 : Hdr) (ev : Ev) (w : World) (r1 : SlAt Dot.cells w h1.val ev.rem) (r2 : SlAt Dot.cells w h2.val ev.rem) (hl : ev.rem.length ≤ 1000000) :
  Calls Tryz.prog 71 #[.agg (pcells (h1, ev)).toArray, .agg (pcells (h2, ev)).toArray] w fun e w' => e = .returned (.bool true) ∧ Grew w w' := by
 obtain ⟨o1, c1, e1⟩ := slAt_slice r1
 obtain ⟨o2, c2, e2⟩ := slAt_slice r2
 show Calls Tryz.prog 71 #[.agg #[.int .i64 ev.dot.node, .int .i64 ev.dot.seq, .int .i64 ev.time, .int .i64 ev.kind, .int .i64 ev.work, .int .i64 ev.value, .int .i64 ev.pol.mn, .int .i64 ev.pol.mx, .int .i64 ev.pol.goal, .int .i64 ev.pol.slack, .int .i64 ev.pol.up, .int .i64 ev.pol.down, .int .i64 ev.pol.cool, h1.val], .agg #[.int .i64 ev.dot.node, .int .i64 ev.dot.seq, .int .i64 ev.time, .int .i64 ev.kind, .int .i64 ev.work, .int .i64 ev.value, .int .i64 ev.pol.mn, .int .i64 ev.pol.mx, .int .i64 ev.pol.goal, .int .i64 ev.pol.slack, .int .i64 ev.pol.up, .int .i64 ev.pol.down, .int .i64 ev.pol.cool, h2.val]] w fun e w' => e = .returned (.bool true) ∧ Grew w w'
 rw [e1] at r1 ⊢
 rw [e2] at r2 ⊢
 have hd := fun W (a : SlAt Dot.cells W (.slice o1 ev.rem.length c1) ev.rem) (b : SlAt Dot.cells W (.slice o2 ev.rem.length c2) ev.rem) => dots_any o1 o2 c1 c2 ev.rem W a b hl
 generalize ev.rem.length = n at *
 have HD := Lib.hid hd
 have R1 := Lib.hid r1
 have R2 := Lib.hid r2
 clear hd r1 r2 e1 e2
 go_enter Tryz.func71, Tryz.ntmps71
 go_wp2_with fail
 have hb : Below w.heap.size w ((w.alloc (.cells #[.int .i64 ev.dot.node, .int .i64 ev.dot.seq, .int .i64 ev.time, .int .i64 ev.kind, .int .i64 ev.work, .int .i64 ev.value, .int .i64 ev.pol.mn, .int .i64 ev.pol.mx, .int .i64 ev.pol.goal, .int .i64 ev.pol.slack, .int .i64 ev.pol.up, .int .i64 ev.pol.down, .int .i64 ev.pol.cool, .slice o1 n c1] 44)).alloc (.cells #[.int .i64 ev.dot.node, .int .i64 ev.dot.seq, .int .i64 ev.time, .int .i64 ev.kind, .int .i64 ev.work, .int .i64 ev.value, .int .i64 ev.pol.mn, .int .i64 ev.pol.mx, .int .i64 ev.pol.goal, .int .i64 ev.pol.slack, .int .i64 ev.pol.up, .int .i64 ev.pol.down, .int .i64 ev.pol.cool, .slice o2 n c2] 44)) := ((Below.refl _ _).alloc (Nat.le_refl _) _).alloc (by simp) _
 refine (HD.out _ (R1.out.below Dot.cells_len (by decide) hb (Nat.le_refl _)) (R2.out.below Dot.cells_len (by decide) hb (Nat.le_refl _))).mono ?_
 rintro e w1 ⟨rfl, hg⟩
 have HG := Lib.hid hg
 clear hg hb
 go_wp2_with fail
 go_ret
 exact ⟨rfl, (((Grew.refl _).alloc _).alloc _).trans HG.out⟩
end Go.Proofs.YtenkfnhcdfmkaaaGreat
