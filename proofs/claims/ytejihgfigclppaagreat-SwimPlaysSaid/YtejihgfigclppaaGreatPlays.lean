/-
  The law SwimPlays walked.
-/
import Derived.Test.YtejihgfigclppaaGreatMPlaysP
import Derived.Test.YtejihgfigclppaaGreatMRefOnP
import Derived.Test.YtejihgfigclppaaGreatMGreat17
import Derived.Test.YtejihgfigclppaaGreatMRefMade
import Derived.Test.YtejihgfigclppaaGreatRefTick
import Derived.Test.YtejihgfigclppaaGreatRefOn
import Derived.Test.YtejihgfigclppaaGreatMSame17
namespace Go.Proofs.YtejihgfigclppaaGreat
open Go.Shelf Go.RowKit Go.Lib Go.Sort
set_option linter.unusedVariables false
set_option linter.unusedSimpArgs false
def PlayOut (B : Nat) (w1 : World) (gm gr : Nat) (self : Int) (i : Nat) (v u : Value) (wx : World) : Prop := ∃ d' out, PlayStep self i d' out ∧ Both B w1 gm gr d' out v u wx
theorem Both.below {B : Nat} {w1 : World} {gm gr : Nat} {d : Det} {out : List Sent} {v u : Value} {w w' : World} (h : Both B w1 gm gr d out v u w) (hs : B ≤ w1.heap.size) (hb : Below w.heap.size w w') : Both B w1 gm gr d out v u w' := by
 obtain ⟨M, R, ps, qs, a, b, c, e, f, g, k, l, n, o⟩ := h
 exact ⟨M, R, ps, qs, a, b, c.below hb, e.below hb (Nat.le_refl _), f.below hb (Nat.le_refl _), g, k, l, n, o.trans (hb.mono (Nat.le_trans hs o.size))⟩
theorem PlayOut.below {B : Nat} {w1 : World} {gm gr : Nat} {self : Int} {i : Nat} {v u : Value} {w w' : World} (h : PlayOut B w1 gm gr self i v u w) (hs : B ≤ w1.heap.size) (hb : Below w.heap.size w w') : PlayOut B w1 gm gr self i v u w' := by
 obtain ⟨d, out, a, b⟩ := h
 exact ⟨d, out, a, b.below hs hb⟩
set_option maxRecDepth 100000 in
set_option maxHeartbeats 32000000 in
theorem plays_any (self inc : Int) (c : DConf) (seed : Int) (oa : Option Addr) (cap : Nat) (l : List SOp) (w : World) (h : SOpsAt w (.slice oa l.length cap) l) (hl : l.length ≤ 1099511627776) (hf : ∀ o ∈ l, o.m.fits) :
  Calls Tryz.prog 8 #[.agg #[.int .i64 self, .int .i64 inc, .int .i64 c.tout, .int .i64 c.ind, .int .i64 c.gr, .int .u64 seed], .slice oa l.length cap] w fun e w' => e = .returned (.bool true) ∧ Below w.heap.size w w' := by
 have hp : Tryz.prog.follows .mixedOrders = true := by kernel_rfl
 obtain ⟨w1, hw1⟩ : ∃ w1, w.alloc (.cells #[.int .i64 self, .int .i64 inc, .int .i64 c.tout, .int .i64 c.ind, .int .i64 c.gr, .int .u64 seed] 57) = w1 := ⟨_, rfl⟩
 have hb1 : Below w.heap.size w w1 := by rw [← hw1]; exact (Below.refl _ _).alloc (Nat.le_refl _) _
 have hr1 : w1.heap[w.heap.size]? = some (.cells #[.int .i64 self, .int .i64 inc, .int .i64 c.tout, .int .i64 c.ind, .int .i64 c.gr, .int .u64 seed] 57) := by rw [← hw1]; exact heap_alloc_new w _
 have hml : w.heap.size < w1.heap.size := (Array.getElem?_eq_some_iff.1 hr1).1
 have HS1 := Lib.hid (h.below hb1 (Nat.le_refl _))
 have HF := Lib.hid hf
 have HB1 := Lib.hid hb1
 have HR1 := Lib.hid hr1
 have HW1 := Lib.hid hw1
 have HAL := Lib.hid (alive20_any w1)
 clear hb1 hr1 hw1 h hf
 go_enter Tryz.func8, Tryz.ntmps8
 go_wp2_with fail
 rw [HW1.out]
 refine HAL.out.mono ?_
 rintro e w2 ⟨rfl, hb2⟩
 have hs2 := HS1.out.below hb2 (Nat.le_refl _)
 have HGR := Lib.hid (great20_any oa cap l w2 hs2 hl HF.out)
 have HB2 := Lib.hid hb2
 clear hb2 hs2 HAL HW1
 go_wp2_with fail
 refine HGR.out.mono ?_
 rintro e w3 ⟨hsay, hb3⟩
 have HB3 := Lib.hid (HB2.out.trans (hb3.mono HB2.out.size))
 clear hb3 HGR HB2
 rcases hsay with rfl | ⟨rfl, hng⟩
 ·go_wp2_with fail
  go_ret
  exact ⟨rfl, HB1.out.trans (HB3.out.mono HB1.out.size)⟩
 have hl200 : l.length ≤ 200 := by
  by_cases e : 200 < l.length
  ·exact absurd (.inr e) hng
  ·omega
 have HNG : Hid (∀ o ∈ l, ¬ o.m.great) := fun o ho hg => hng (.inl ⟨o, ho, hg⟩)
 have hr3 := (HB3.out.block _ hml).trans HR1.out
 have cc := fun k => cell_of_row w3 w.heap.size k _ _ _ hr3
 have n0 : w3.cell? ⟨w.heap.size, 0, none⟩ = some (.int .i64 self) := cc 0
 have n1 : w3.cell? ⟨w.heap.size, 1, none⟩ = some (.int .i64 inc) := cc 1
 have n2 : w3.cell? ⟨w.heap.size, 2, none⟩ = some (.int .i64 c.tout) := cc 2
 have n3 : w3.cell? ⟨w.heap.size, 3, none⟩ = some (.int .i64 c.ind) := cc 3
 have n4 : w3.cell? ⟨w.heap.size, 4, none⟩ = some (.int .i64 c.gr) := cc 4
 have n5 : w3.cell? ⟨w.heap.size, 5, none⟩ = some (.int .u64 seed) := cc 5
 clear cc hr3 hng
 by_cases hq : Mb.may ⟨self, 1, inc⟩ ∧ c.right
 ·have hmd := made_good self inc c seed w3 hq.1 hq.2
  have hD0 : PlayD self 0 false (Det.new self inc c seed) := PlayD.new hq.1 hq.2
  have hnw := fun W => rnew20_good self inc c seed W hq.1 hq.2
  obtain ⟨rc, hrc⟩ : ∃ rc, decide c.right = rc := ⟨_, rfl⟩
  have HRD : Hid (∀ W, Calls Tryz.prog 26 #[.agg #[.int .i64 c.tout, .int .i64 c.ind, .int .i64 c.gr]] W fun e w' => e = .returned (.bool rc) ∧ Below W.heap.size W w') := by rw [← hrc]; exact fun W => rightD_any c W
  have HRR : Hid (∀ W, Calls Tryz.prog 10 #[.agg #[.int .i64 c.tout, .int .i64 c.ind, .int .i64 c.gr]] W fun e w' => e = .returned (.bool rc) ∧ Below W.heap.size W w') := by rw [← hrc]; exact fun W => refRight20_any c W
  have HMD := Lib.hid hmd
  have HD0 := Lib.hid hD0
  have HNW := Lib.hid hnw
  clear hmd hD0 hnw hq hrc
  go_wp2_with fail
  refine HMD.out.mono ?_
  rintro e w4 ⟨M0, rfl, hDA, hO, hb4⟩
  have hs3 := HB3.out.size
  have hBB4 := HB3.out.trans (hb4.mono HB3.out.size)
  have hr4 := (hBB4.block _ hml).trans HR1.out
  have cc := fun k => cell_of_row w4 w.heap.size k _ _ _ hr4
  have n0 : w4.cell? ⟨w.heap.size, 0, none⟩ = some (.int .i64 self) := cc 0
  have n1 : w4.cell? ⟨w.heap.size, 1, none⟩ = some (.int .i64 inc) := cc 1
  have n2 : w4.cell? ⟨w.heap.size, 2, none⟩ = some (.int .i64 c.tout) := cc 2
  have n3 : w4.cell? ⟨w.heap.size, 3, none⟩ = some (.int .i64 c.ind) := cc 3
  have n4 : w4.cell? ⟨w.heap.size, 4, none⟩ = some (.int .i64 c.gr) := cc 4
  have n5 : w4.cell? ⟨w.heap.size, 5, none⟩ = some (.int .u64 seed) := cc 5
  have HDA := Lib.hid hDA
  have HO : Hid (∀ k ∈ M0.own, w1.heap.size ≤ k) := fun k hk => by have := hO k hk; omega
  have HB4 := Lib.hid hBB4
  have HNW4 := Lib.hid (HNW.out w4)
  clear hDA hO hb4 HMD HB3 hs3 hBB4 hr4 cc HNW
  go_wp2_with fail
  refine HNW4.out.mono ?_
  rintro e w5 ⟨R0, rfl, hRA, hRO, hb5⟩
  have hs4 := HB4.out.size
  have hT0 : Two w1.heap.size w5 M0 R0 (Det.new self inc c seed) := ⟨HDA.out.below hb5, hRA, fun k hk hr => by have h1 := HDA.out.own_lt k hk; have h2 := hRO k hr; omega, HO.out, fun k hk => by have := hRO k hk; omega⟩
  have hBB5 := HB4.out.trans (hb5.mono HB4.out.size)
  have hr5 := (hBB5.block _ hml).trans HR1.out
  have HT0 := Lib.hid hT0
  have HB5 := Lib.hid hBB5
  have HLC : Hid (∀ W, Below w5.heap.size w5 W → Sem.run Tryz.prog (loadCellsFrom ⟨w.heap.size, 2, none⟩ 0 3 #[]) W = .ok #[.int .i64 c.tout, .int .i64 c.ind, .int .i64 c.gr] W) := fun W hW => by
   have hrW := (hW.block _ (Nat.lt_of_lt_of_le hml hBB5.size)).trans hr5
   refine run_loadCellsFrom_list Tryz.prog W ⟨w.heap.size, 2, none⟩ [.int .i64 c.tout, .int .i64 c.ind, .int .i64 c.gr] 3 rfl fun j v hv => ?_
   rw [Addr.add_lit, cell_of_row W w.heap.size (2 + j) _ _ _ hrW]
   match j, hv with
   | 0, hv => exact hv
   | 1, hv => exact hv
   | 2, hv => exact hv
  clear hRA hRO hb5 hs4 hT0 hBB5 hr5 HDA HO HB4 HNW4 n0 n1 n2 n3 n4 n5
  generalize Det.new self inc c seed = d0 at *
  go_wp2_with fail
  go_cut [55] (fun s55 wx => s55 = .bool false ∧ Hid (Below w5.heap.size w5 wx))
  case first =>
   as_aux_lemma =>
   refine tell_region (by kernel_rfl) [(40, fun v _ => v = .int .i64 0), (41, fun v _ => v = .int .i64 0), (42, fun v _ => v = .bool false), (43, fun v _ => v = .bool false), (44, fun v _ => v = .int .i64 0), (45, fun v _ => v = .bool false), (46, fun v _ => v = .bool false), (47, fun v _ => v = .bool false), (48, fun v _ => v = .pointer (some ⟨w.heap.size, 2, none⟩)), (49, fun v _ => v = .agg #[.int .i64 c.tout, .int .i64 c.ind, .int .i64 c.gr]), (50, fun v _ => v = .bool rc), (51, fun v _ => v = .pointer (some ⟨w.heap.size, 2, none⟩)), (52, fun v _ => v = .agg #[.int .i64 c.tout, .int .i64 c.ind, .int .i64 c.gr]), (53, fun v _ => v = .bool rc), (54, fun v _ => v = .bool false), (55, fun v _ => v = .bool false)] rfl (by show ([40, 41, 42, 43, 44, 45, 46, 47, 48, 49, 50, 51, 52, 53, 54, 55] : List Nat).Nodup; decide) (by show ∀ d ∈ ([40, 41, 42, 43, 44, 45, 46, 47, 48, 49, 50, 51, 52, 53, 54, 55] : List Nat), d < 212; decide) (by kernel_rfl) ?hmono ?hstep ?hend
   case hmono =>
    intro p hp
    simp only [List.mem_cons, List.not_mem_nil, or_false] at hp
    rcases hp with rfl | rfl | rfl | rfl | rfl | rfl | rfl | rfl | rfl | rfl | rfl | rfl | rfl | rfl | rfl | rfl
    ·exact lasts_pure _
    ·exact lasts_pure _
    ·exact lasts_pure _
    ·exact lasts_pure _
    ·exact lasts_pure _
    ·exact lasts_pure _
    ·exact lasts_pure _
    ·exact lasts_pure _
    ·exact lasts_pure _
    ·exact lasts_pure _
    ·exact lasts_pure _
    ·exact lasts_pure _
    ·exact lasts_pure _
    ·exact lasts_pure _
    ·exact lasts_pure _
    ·exact lasts_pure _
   case hstep =>
    intro i hi r w' hag hbel hn
    have hi2 : i < 16 := hi
    rcases (show i = 0 ∨ i = 1 ∨ i = 2 ∨ i = 3 ∨ i = 4 ∨ i = 5 ∨ i = 6 ∨ i = 7 ∨ i = 8 ∨ i = 9 ∨ i = 10 ∨ i = 11 ∨ i = 12 ∨ i = 13 ∨ i = 14 ∨ i = 15 by omega) with rfl | rfl | rfl | rfl | rfl | rfl | rfl | rfl | rfl | rfl | rfl | rfl | rfl | rfl | rfl | rfl
    ·skip
     have e6 : r.eval (.tmp 6) = .int .i64 0 := (hag.out 6 (by simp)).trans rfl
     exact leaves_val rfl rfl rfl (v := .int .i64 0) (by generalize r.eval = ρ at e6 ⊢; go_simp) (Below.refl _ _) rfl
    ·skip
     have e8 : r.eval (.tmp 8) = .int .i64 0 := (hag.out 8 (by simp)).trans rfl
     exact leaves_val rfl rfl rfl (v := .int .i64 0) (by generalize r.eval = ρ at e8 ⊢; go_simp) (Below.refl _ _) rfl
    ·skip
     have e40 : r.eval (.tmp 40) = .int .i64 0 := hn 0 (by simp) ⟨_, rfl, ⟨0, .data⟩, by simp, rfl, rfl⟩
     have e41 : r.eval (.tmp 41) = .int .i64 0 := hn 1 (by simp) ⟨_, rfl, ⟨1, .data⟩, by simp, rfl, rfl⟩
     exact leaves_val rfl rfl rfl (v := .bool false) (by generalize r.eval = ρ at e40 e41 ⊢; go_simp) (Below.refl _ _) rfl
    ·skip
     have e42 : r.eval (.tmp 42) = .bool false := hn 2 (by simp) ⟨_, rfl, ⟨2, .data⟩, by simp, rfl, rfl⟩
     exact leaves_val rfl rfl rfl (v := .bool false) (by generalize r.eval = ρ at e42 ⊢; go_simp) (Below.refl _ _) rfl
    ·skip
     have eg : r.eval (.tmp 43) = .bool false := hn 3 (by simp) ⟨_, rfl, ⟨3, .guard⟩, by simp, rfl, rfl⟩
     have e8 : r.eval (.tmp 8) = .int .i64 0 := (hag.out 8 (by simp)).trans rfl
     exact leaves_val_g rfl rfl rfl rfl rfl (by rw [hag.size]; show 43 < 212; decide) eg (v := .int .i64 0) (by generalize r.eval = ρ at e8 ⊢; go_simp) (Below.refl _ _) rfl
    ·skip
     have eg : r.eval (.tmp 43) = .bool false := hn 3 (by simp) ⟨_, rfl, ⟨3, .guard⟩, by simp, rfl, rfl⟩
     have e44 : r.eval (.tmp 44) = .int .i64 0 := hn 4 (by simp) ⟨_, rfl, ⟨4, .data⟩, by simp, rfl, rfl⟩
     have ec0 : r.eval (.const (.int .i64 0)) = .int .i64 0 := rfl
     exact leaves_val_g rfl rfl rfl rfl rfl (by rw [hag.size]; show 43 < 212; decide) eg (v := .bool false) (by generalize r.eval = ρ at e44 ec0 ⊢; go_simp) (Below.refl _ _) rfl
    ·skip
     have e43 : r.eval (.tmp 43) = .bool false := hn 3 (by simp) ⟨_, rfl, ⟨3, .data⟩, by simp, rfl, rfl⟩
     have e45 : r.eval (.tmp 45) = .bool false := hn 5 (by simp) ⟨_, rfl, ⟨5, .data⟩, by simp, rfl, rfl⟩
     have ec0 : r.eval (.const (.bool true)) = .bool true := rfl
     exact leaves_val rfl rfl rfl (v := .bool false) (by generalize r.eval = ρ at e43 e45 ec0 ⊢; go_simp) (Below.refl _ _) rfl
    ·skip
     have e46 : r.eval (.tmp 46) = .bool false := hn 6 (by simp) ⟨_, rfl, ⟨6, .data⟩, by simp, rfl, rfl⟩
     exact leaves_val rfl rfl rfl (v := .bool false) (by generalize r.eval = ρ at e46 ⊢; go_simp) (Below.refl _ _) rfl
    ·skip
     have eg : r.eval (.tmp 47) = .bool false := hn 7 (by simp) ⟨_, rfl, ⟨7, .guard⟩, by simp, rfl, rfl⟩
     have e2 : r.eval (.tmp 2) = .pointer (some ⟨w.heap.size, 0, none⟩) := (hag.out 2 (by simp)).trans rfl
     exact leaves_val_g rfl rfl rfl rfl rfl (by rw [hag.size]; show 47 < 212; decide) eg (v := .pointer (some ⟨w.heap.size, 2, none⟩)) (by generalize r.eval = ρ at e2 ⊢; go_simp) (Below.refl _ _) rfl
    ·skip
     have eg : r.eval (.tmp 47) = .bool false := hn 7 (by simp) ⟨_, rfl, ⟨7, .guard⟩, by simp, rfl, rfl⟩
     have e48 : r.eval (.tmp 48) = .pointer (some ⟨w.heap.size, 2, none⟩) := hn 8 (by simp) ⟨_, rfl, ⟨8, .data⟩, by simp, rfl, rfl⟩
     exact leaves_loadAgg_g rfl rfl rfl rfl rfl (by rw [hag.size]; show 47 < 212; decide) eg 23 (.tmp 48) rfl 3 (by kernel_rfl) (by kernel_rfl) ⟨w.heap.size, 2, none⟩ e48 _ (HLC.out w' hbel) rfl
    ·skip
     have eg : r.eval (.tmp 47) = .bool false := hn 7 (by simp) ⟨_, rfl, ⟨7, .guard⟩, by simp, rfl, rfl⟩
     have e49 : r.eval (.tmp 49) = .agg #[.int .i64 c.tout, .int .i64 c.ind, .int .i64 c.gr] := hn 9 (by simp) ⟨_, rfl, ⟨9, .data⟩, by simp, rfl, rfl⟩
     refine leaves_call_g (f := 26) (args := #[.agg #[.int .i64 c.tout, .int .i64 c.ind, .int .i64 c.gr]]) rfl rfl rfl rfl rfl (by rw [hag.size]; show 47 < 212; decide) eg (by have ef : r.eval (.func 26) = .func (.func 26) #[] #[] := rfl; generalize r.eval = ρ at ef e49 ⊢; go_simp) (HRD.out w') ?_
     rintro e2 w2 ⟨rfl, hb⟩
     exact ⟨_, rfl, hb, rfl⟩
    ·skip
     have eg : r.eval (.tmp 47) = .bool false := hn 7 (by simp) ⟨_, rfl, ⟨7, .guard⟩, by simp, rfl, rfl⟩
     have e2 : r.eval (.tmp 2) = .pointer (some ⟨w.heap.size, 0, none⟩) := (hag.out 2 (by simp)).trans rfl
     exact leaves_val_g rfl rfl rfl rfl rfl (by rw [hag.size]; show 47 < 212; decide) eg (v := .pointer (some ⟨w.heap.size, 2, none⟩)) (by generalize r.eval = ρ at e2 ⊢; go_simp) (Below.refl _ _) rfl
    ·skip
     have eg : r.eval (.tmp 47) = .bool false := hn 7 (by simp) ⟨_, rfl, ⟨7, .guard⟩, by simp, rfl, rfl⟩
     have e51 : r.eval (.tmp 51) = .pointer (some ⟨w.heap.size, 2, none⟩) := hn 11 (by simp) ⟨_, rfl, ⟨11, .data⟩, by simp, rfl, rfl⟩
     exact leaves_loadAgg_g rfl rfl rfl rfl rfl (by rw [hag.size]; show 47 < 212; decide) eg 23 (.tmp 51) rfl 3 (by kernel_rfl) (by kernel_rfl) ⟨w.heap.size, 2, none⟩ e51 _ (HLC.out w' hbel) rfl
    ·skip
     have eg : r.eval (.tmp 47) = .bool false := hn 7 (by simp) ⟨_, rfl, ⟨7, .guard⟩, by simp, rfl, rfl⟩
     have e52 : r.eval (.tmp 52) = .agg #[.int .i64 c.tout, .int .i64 c.ind, .int .i64 c.gr] := hn 12 (by simp) ⟨_, rfl, ⟨12, .data⟩, by simp, rfl, rfl⟩
     refine leaves_call_g (f := 10) (args := #[.agg #[.int .i64 c.tout, .int .i64 c.ind, .int .i64 c.gr]]) rfl rfl rfl rfl rfl (by rw [hag.size]; show 47 < 212; decide) eg (by have ef : r.eval (.func 10) = .func (.func 10) #[] #[] := rfl; generalize r.eval = ρ at ef e52 ⊢; go_simp) (HRR.out w') ?_
     rintro e2 w2 ⟨rfl, hb⟩
     exact ⟨_, rfl, hb, rfl⟩
    ·skip
     have eg : r.eval (.tmp 47) = .bool false := hn 7 (by simp) ⟨_, rfl, ⟨7, .guard⟩, by simp, rfl, rfl⟩
     have e50 : r.eval (.tmp 50) = .bool rc := hn 10 (by simp) ⟨_, rfl, ⟨10, .data⟩, by simp, rfl, rfl⟩
     have e53 : r.eval (.tmp 53) = .bool rc := hn 13 (by simp) ⟨_, rfl, ⟨13, .data⟩, by simp, rfl, rfl⟩
     exact leaves_val_g rfl rfl rfl rfl rfl (by rw [hag.size]; show 47 < 212; decide) eg (v := .bool false) (by generalize r.eval = ρ at e50 e53 ⊢; go_simp) (Below.refl _ _) rfl
    ·skip
     have e47 : r.eval (.tmp 47) = .bool false := hn 7 (by simp) ⟨_, rfl, ⟨7, .data⟩, by simp, rfl, rfl⟩
     have e54 : r.eval (.tmp 54) = .bool false := hn 14 (by simp) ⟨_, rfl, ⟨14, .data⟩, by simp, rfl, rfl⟩
     have ec0 : r.eval (.const (.bool true)) = .bool true := rfl
     exact leaves_val rfl rfl rfl (v := .bool false) (by generalize r.eval = ρ at e47 e54 ec0 ⊢; go_simp) (Below.refl _ _) rfl
   case hend =>
    intro r w' hag hbel hall
    have e55 : r.eval (.tmp 55) = .bool false := hall 15 (by simp)
    have hfin := Ag.final _ (by show ∀ d ∈ ([40, 41, 42, 43, 44, 45, 46, 47, 48, 49, 50, 51, 52, 53, 54, 55] : List Nat), d < 212; decide) hag
    simp only [List.map, List.foldl, e55] at hfin
    generalize r.eval (.tmp 40) = y40 at hfin
    generalize r.eval (.tmp 41) = y41 at hfin
    generalize r.eval (.tmp 42) = y42 at hfin
    generalize r.eval (.tmp 43) = y43 at hfin
    generalize r.eval (.tmp 44) = y44 at hfin
    generalize r.eval (.tmp 45) = y45 at hfin
    generalize r.eval (.tmp 46) = y46 at hfin
    generalize r.eval (.tmp 47) = y47 at hfin
    generalize r.eval (.tmp 48) = y48 at hfin
    generalize r.eval (.tmp 49) = y49 at hfin
    generalize r.eval (.tmp 50) = y50 at hfin
    generalize r.eval (.tmp 51) = y51 at hfin
    generalize r.eval (.tmp 52) = y52 at hfin
    generalize r.eval (.tmp 53) = y53 at hfin
    generalize r.eval (.tmp 54) = y54 at hfin
    have HBB := Lib.hid hbel
    clear e55 hall hag hbel
    subst hfin
    simp only [Act.put, List.setIfInBounds_toArray, List.set_cons_succ, List.set_cons_zero]
    go_wp2_with fail
    go_meet
    exact ⟨rfl, HBB.out⟩
  obtain ⟨rfl, HBW5⟩ := hcut
  have hT6 := HT0.out.below HBW5.out
  have hB6 := HB5.out.trans (HBW5.out.mono HB5.out.size)
  have HT6 := Lib.hid hT6
  have HB6 := Lib.hid hB6
  clear hT6 hB6 HT0 HB5 HBW5 HLC HRD HRR
  go_wp2_with fail
  go_loopg [10, 11, 12, 13, 14, 15, 16, 17, 18, 65] l.length (fun gk s10 s11 s12 s13 s14 s15 s16 s17 s18 s65 wr => ∃ (i : Nat) (lf : Bool) (d : Det) (M : DM) (R : RM), s65 = .int .i64 i ∧ i ≤ l.length ∧ l.length - i ≤ gk ∧ M.g = M0.g ∧ R.g = R0.g ∧ Hid (PlayD self i lf d) ∧ Hid (Two w1.heap.size wr M R d) ∧ Hid (Below w1.heap.size w1 wr))
  case atStart => exact ⟨0, false, d0, M0, R0, rfl, Nat.zero_le _, Nat.le_refl _, rfl, rfl, HD0.out, HT6.out, HB6.out⟩
  case round =>
   obtain ⟨i, lf, d, M, R, rfl, hi, hgk, hgM, hgR, HD, HT, HB⟩ := hrel
   clear HD0 HT6 HB6
   by_cases hlt : i < l.length
   ·--ROUND
    have hltz : (i : Int) < (l.length : Int) := by omega
    have hsr := HS1.out.below HB.out (Nat.le_refl _)
    have hsl := hsr.row
    obtain ⟨bo, off, hbo⟩ := hsl.plain SOp.cells_len (by decide) (by intro e; rw [e] at hlt; exact absurd hlt (by simp))
    subst hbo
    have hld := sop_load hsl hlt
    have hmem : l[i] ∈ l := List.getElem_mem hlt
    have hmi := hsr.ms _ hmem
    have hm1 := HS1.out.ms _ hmem
    have hsm := Msg.small_of (HNG.out _ hmem)
    have hfi := HF.out _ hmem
    generalize l[i] = o at *
    clear hmem hsl hsr hfi
    obtain ⟨kind, m⟩ := o
    obtain ⟨ma, mn, mc, e1⟩ : ∃ a n c, m.hm.val = .slice a n c := ⟨m.hm.a, m.hm.n, m.hm.c, rfl⟩
    obtain ⟨ea, en, ec, e2⟩ : ∃ a n c, m.he.val = .slice a n c := ⟨m.he.a, m.he.n, m.he.c, rfl⟩
    obtain ⟨sa, sn, sc, e3⟩ : ∃ a n c, m.hs.val = .slice a n c := ⟨m.hs.a, m.hs.n, m.hs.c, rfl⟩
    replace hld : Sem.run Tryz.prog (loadCellsFrom ⟨bo, off + i * 17, none⟩ 0 17 #[]) wr = .ok #[.int .i64 kind, .int .i64 m.kind, .int .i64 m.frm, .int .i64 m.to_, .int .i64 m.seq, .int .i64 m.node, .int .i64 (m.u 0), .int .i64 (m.u 1), .int .i64 (m.u 2), .int .i64 (m.u 3), .int .i64 (m.u 4), .int .i64 (m.u 5), .int .i64 (m.u 6), .int .i64 (m.u 7), m.hm.val, m.he.val, m.hs.val] wr := hld
    rw [e1, e2, e3] at hld
    obtain ⟨W, hW⟩ : ∃ W, wr.alloc (.cells #[.int .i64 kind, .int .i64 m.kind, .int .i64 m.frm, .int .i64 m.to_, .int .i64 m.seq, .int .i64 m.node, .int .i64 (m.u 0), .int .i64 (m.u 1), .int .i64 (m.u 2), .int .i64 (m.u 3), .int .i64 (m.u 4), .int .i64 (m.u 5), .int .i64 (m.u 6), .int .i64 (m.u 7), .slice ma mn mc, .slice ea en ec, .slice sa sn sc] 62) = W := ⟨_, rfl⟩
    have hbW : Below wr.heap.size wr W := by rw [← hW]; exact (Below.refl _ _).alloc (Nat.le_refl _) _
    have hrW : W.heap[wr.heap.size]? = some (.cells (SOp.cells ⟨kind, m⟩).toArray 62) := by rw [← hW, ← e1, ← e2, ← e3]; exact heap_alloc_new wr _
    have hwlt : wr.heap.size < W.heap.size := (Array.getElem?_eq_some_iff.1 hrW).1
    have hTW := HT.out.below hbW
    have hloM := HT.out.m.own_lt
    have hloR := HT.out.r.own_lt
    have hmW := hmi.below hbW (Nat.le_refl _)
    have hBW := HB.out.trans (hbW.mono HB.out.size)
    have o0 : W.cell? ⟨wr.heap.size, 0, none⟩ = some (.int .i64 kind) := cell_of_row W _ 0 _ _ _ hrW
    have hms : ∀ L : List Nat, (∀ k ∈ L, w1.heap.size ≤ k) → m.ms = [] ∨ ∀ b, m.hs.val.ownBlock = some b → b ∉ L := fun L hL => by
     by_cases e : m.ms = []
     ·exact .inl e
     ·refine .inr fun b hb hm => ?_
      have h1 := hm1.ms.lt Mb.cells_len (by decide) e b hb
      have h2 := hL b hm
      omega
    have HM1 := Lib.hid hm1
    have HE := Lib.hid (And.intro e1 (And.intro e2 e3))
    have HMS := Lib.hid hms
    have HLM := Lib.hid hloM
    have HLR := Lib.hid hloR
    have HLD := Lib.hid hld
    have HWW := Lib.hid hW
    have HRW := Lib.hid hrW
    have HTW := Lib.hid hTW
    have HMW := Lib.hid hmW
    have HBW := Lib.hid hBW
    have HSM := Lib.hid hsm
    clear e1 e2 e3 hloM hloR hms hld hW hbW hrW hTW hmW hBW hsm hmi hm1 HT HB
    go_upto_region 12 with (refine wpList_loadAgg _ rfl 62 _ rfl 17 (by kernel_rfl) (by kernel_rfl) ⟨bo, off + i * 17, none⟩ rfl _ HLD.out ?_)
    rw [HWW.out]
    clear HLD HWW
    go_upto_region 15 with fail
    go_cut [70] (fun s70 wx => s70 = .int .i64 kind ∧ wx = W)
    case first =>
     go_wp2_with fail
     go_meet
     exact ⟨rfl, rfl⟩
    obtain ⟨rfl, rfl⟩ := hcut
    go_step
    go_cut [11, 12, 13, 14] (fun s11 s12 s13 s14 wx => ∃ er : Int, s13 = .int .i64 er ∧ s14 = .int .i64 er ∧ Hid (PlayOut w1.heap.size w1 M0.g R0.g self (i + 1) s11 s12 wx))
    case first =>
     have hi1000 : i < 1000 := by omega
     have hcl : d.clock < 1000000 := by have := HD.out.od.clock; omega
     have hnu : d.num < 1000000 := by have := HD.out.od.num; omega
     by_cases k1 : kind = 1
     ·--K1
      as_aux_lemma =>
      subst k1
      have htk := tick_stepped M d HD.out.od.ok hcl hnu wc HTW.out.m
      rw [hgM] at htk
      have hrt := fun (w6 : World) (h : RAt w6 R d) => rtick_any R d HD.out.od.ok HD.out.so hcl hnu w6 h
      rw [hgR] at hrt
      have HTK := Lib.hid htk
      have HRT := Lib.hid hrt
      have HPS := Lib.hid (HD.out.tick hi1000)
      clear htk hrt hcl hnu
      go_wp2_with fail
      refine HTK.out.mono ?_
      rintro e w6 ⟨v, rfl, hst⟩
      have hre := HTW.out.ref (by obtain ⟨_, _, _, _, _, _, _, g⟩ := hst; exact g)
      have HST := Lib.hid hst
      have HRE := Lib.hid hre
      clear hst hre HTK
      go_wp2_with fail
      refine (HRT.out w6 HRE.out).mono ?_
      rintro e w7 ⟨u, rfl, hsu⟩
      have hx := HTW.out.steps HBW.out (Nat.le_refl _) HST.out (Below.refl _ _) hsu
      rw [hgM, hgR] at hx
      have HX : Hid (PlayOut w1.heap.size w1 M0.g R0.g self (i + 1) v u w7) := ⟨_, _, HPS.out, hx⟩
      clear hx hsu HST HRT HRE HPS
      go_wp2_with fail
      go_meet
      exact ⟨0, rfl, rfl, HX.out⟩
     ·by_cases k2 : kind = 2
      ·--K2
       subst k2
       have hml2 := sopMsg_load HRW.out
       replace hml2 : Sem.run Tryz.prog (loadCellsFrom ⟨wr.heap.size, 1, none⟩ 0 16 #[]) wc = .ok #[.int .i64 m.kind, .int .i64 m.frm, .int .i64 m.to_, .int .i64 m.seq, .int .i64 m.node, .int .i64 (m.u 0), .int .i64 (m.u 1), .int .i64 (m.u 2), .int .i64 (m.u 3), .int .i64 (m.u 4), .int .i64 (m.u 5), .int .i64 (m.u 6), .int .i64 (m.u 7), m.hm.val, m.he.val, m.hs.val] wc := hml2
       have hcp := copy17_any m HSM.out wc HMW.out
       have hron := fun (w7 : World) (hB : Below w1.heap.size w1 w7) (h : RAt w7 R d) => ron_any R d HD.out.od.ok hnu m HSM.out w7 (HM1.out.below hB (Nat.le_refl _)) (HMS.out R.own HTW.out.rlo) h
       rw [hgR] at hron
       obtain ⟨e1, e2, e3⟩ := HE.out
       rw [e1, e2, e3] at hml2 hcp hron
       clear e1 e2 e3
       have HML := Lib.hid hml2
       have HCP := Lib.hid hcp
       have HRON := Lib.hid hron
       clear hml2 hcp hron hcl k1
       go_wp2_with (refine wpList_loadAgg _ rfl 42 _ rfl 16 (by kernel_rfl) (by kernel_rfl) ⟨wr.heap.size, 1, none⟩ rfl _ HML.out ?_)
       refine HCP.out.mono ?_
       rintro e w6 ⟨hm', he', hs', evs', rfl, hev, hmi6, hfr6, hb6⟩
       have hon : Calls Tryz.prog 12 #[.pointer (some ⟨M0.g, 0, none⟩), .agg #[.int .i64 m.kind, .int .i64 m.frm, .int .i64 m.to_, .int .i64 m.seq, .int .i64 m.node, .int .i64 (m.u 0), .int .i64 (m.u 1), .int .i64 (m.u 2), .int .i64 (m.u 3), .int .i64 (m.u 4), .int .i64 (m.u 5), .int .i64 (m.u 6), .int .i64 (m.u 7), hm'.val, he'.val, hs'.val]] w6 fun e w' =>
         (badOn d m = true → e = .returned (.tuple #[.slice none 0 0, .int .i64 2]) ∧ Below w6.heap.size w6 w') ∧
         (badOn d m = false → d.left = true → e = .returned (.tuple #[.slice none 0 0, .int .i64 16]) ∧ Below w6.heap.size w6 w') ∧
         (badOn d m = false → d.left = false → ∃ v, e = .returned (.tuple #[v, .int .i64 0]) ∧ Stepped M (d.on m.got).1 (d.on m.got).2 w6 v w') := by
        rw [← copied_bad (d := d) (hm := hm') (he := he') (hs := hs') hev, ← hgM]
        exact on_any M d HD.out.od.ok hnu (m.copied hm' he' hs' evs') (copied_small hev HSM.out) w6 hmi6 (.inr fun b hb hm => by
         have h1 := hfr6 b hb
         have h2 := HLM.out b hm
         omega) (HTW.out.m.below hb6)
       have hr6 := (hb6.block _ hwlt).trans HRW.out
       have hT6 := HTW.out.below hb6
       have hB6 := HBW.out.trans (hb6.mono HBW.out.size)
       have hl6 : wr.heap.size < w6.heap.size := Nat.lt_of_lt_of_le hwlt hb6.size
       have HON := Lib.hid hon
       have HR6 := Lib.hid hr6
       have HT6 := Lib.hid hT6
       have HB6 := Lib.hid hB6
       clear hon hr6 hT6 hB6 hmi6 hfr6 hb6 hev HML HCP HRW HTW HBW HMW o0
       go_wp2_with fail
       refine HON.out.mono ?_
       rintro e w7 ⟨hbd, hlv, hst⟩
       clear HON
       cases hbad : badOn d m with
       | true =>
        as_aux_lemma =>
        obtain ⟨rfl, hb7⟩ := hbd hbad
        have hr7 := (hb7.block _ hl6).trans HR6.out
        have hml2 := sopMsg_load hr7
        replace hml2 : Sem.run Tryz.prog (loadCellsFrom ⟨wr.heap.size, 1, none⟩ 0 16 #[]) w7 = .ok #[.int .i64 m.kind, .int .i64 m.frm, .int .i64 m.to_, .int .i64 m.seq, .int .i64 m.node, .int .i64 (m.u 0), .int .i64 (m.u 1), .int .i64 (m.u 2), .int .i64 (m.u 3), .int .i64 (m.u 4), .int .i64 (m.u 5), .int .i64 (m.u 6), .int .i64 (m.u 7), m.hm.val, m.he.val, m.hs.val] w7 := hml2
        have hron := HRON.out w7 (HB6.out.trans (hb7.mono HB6.out.size)) (HT6.out.r.below hb7)
        obtain ⟨e1, e2, e3⟩ := HE.out
        rw [e1, e2, e3] at hml2
        have HML := Lib.hid hml2
        have HRN := Lib.hid hron
        have HBD := Lib.hid hbad
        have HB7 := Lib.hid hb7
        clear e1 e2 e3 hml2 hron hbad hb7 hr7 hbd hlv hst HRON HR6
        go_wp2_with (refine wpList_loadAgg _ rfl 42 _ rfl 16 (by kernel_rfl) (by kernel_rfl) ⟨wr.heap.size, 1, none⟩ rfl _ HML.out ?_)
        refine HRN.out.mono ?_
        rintro e w8 ⟨rbd, _, _⟩
        obtain ⟨rfl, hb8⟩ := rbd HBD.out
        have hx := HT6.out.same HB6.out (Nat.le_refl _) (HB7.out.trans (hb8.mono HB7.out.size))
        rw [hgM, hgR] at hx
        have HX : Hid (PlayOut w1.heap.size w1 M0.g R0.g self (i + 1) (.slice none 0 0) (.slice none 0 0) w8) := ⟨_, _, HD.out.stay, hx⟩
        clear hx hb8 rbd HML HRN HB7
        go_wp2_with fail
        go_meet
        exact ⟨2, rfl, rfl, HX.out⟩
       | false =>
        cases hlf : d.left with
        | true =>
         as_aux_lemma =>
         obtain ⟨rfl, hb7⟩ := hlv hbad hlf
         have hr7 := (hb7.block _ hl6).trans HR6.out
         have hml2 := sopMsg_load hr7
         replace hml2 : Sem.run Tryz.prog (loadCellsFrom ⟨wr.heap.size, 1, none⟩ 0 16 #[]) w7 = .ok #[.int .i64 m.kind, .int .i64 m.frm, .int .i64 m.to_, .int .i64 m.seq, .int .i64 m.node, .int .i64 (m.u 0), .int .i64 (m.u 1), .int .i64 (m.u 2), .int .i64 (m.u 3), .int .i64 (m.u 4), .int .i64 (m.u 5), .int .i64 (m.u 6), .int .i64 (m.u 7), m.hm.val, m.he.val, m.hs.val] w7 := hml2
         have hron := HRON.out w7 (HB6.out.trans (hb7.mono HB6.out.size)) (HT6.out.r.below hb7)
         obtain ⟨e1, e2, e3⟩ := HE.out
         rw [e1, e2, e3] at hml2
         have HML := Lib.hid hml2
         have HRN := Lib.hid hron
         have HBD := Lib.hid hbad
         have HLF := Lib.hid hlf
         have HB7 := Lib.hid hb7
         clear e1 e2 e3 hml2 hron hbad hlf hb7 hr7 hbd hlv hst HRON HR6
         go_wp2_with (refine wpList_loadAgg _ rfl 42 _ rfl 16 (by kernel_rfl) (by kernel_rfl) ⟨wr.heap.size, 1, none⟩ rfl _ HML.out ?_)
         refine HRN.out.mono ?_
         rintro e w8 ⟨_, rlv, _⟩
         obtain ⟨rfl, hb8⟩ := rlv HBD.out HLF.out
         have hx := HT6.out.same HB6.out (Nat.le_refl _) (HB7.out.trans (hb8.mono HB7.out.size))
         rw [hgM, hgR] at hx
         have HX : Hid (PlayOut w1.heap.size w1 M0.g R0.g self (i + 1) (.slice none 0 0) (.slice none 0 0) w8) := ⟨_, _, HD.out.stay, hx⟩
         clear hx hb8 rlv HML HRN HB7
         go_wp2_with fail
         go_meet
         exact ⟨16, rfl, rfl, HX.out⟩
        | false =>
         as_aux_lemma =>
         obtain ⟨v, rfl, hst2⟩ := hst hbad hlf
         have hT7 : Touch (fun k => k ∈ M.own) w6 w7 := by obtain ⟨_, _, _, _, _, _, _, g⟩ := hst2; exact g
         have hr7 := (hT7.block _ hl6 fun hm => absurd (HLM.out _ hm) (Nat.lt_irrefl _)).trans HR6.out
         have hml2 := sopMsg_load hr7
         replace hml2 : Sem.run Tryz.prog (loadCellsFrom ⟨wr.heap.size, 1, none⟩ 0 16 #[]) w7 = .ok #[.int .i64 m.kind, .int .i64 m.frm, .int .i64 m.to_, .int .i64 m.seq, .int .i64 m.node, .int .i64 (m.u 0), .int .i64 (m.u 1), .int .i64 (m.u 2), .int .i64 (m.u 3), .int .i64 (m.u 4), .int .i64 (m.u 5), .int .i64 (m.u 6), .int .i64 (m.u 7), m.hm.val, m.he.val, m.hs.val] w7 := hml2
         have hron := HRON.out w7 (HB6.out.trans (hT7.below HB6.out.size HT6.out.mlo)) (HT6.out.ref hT7)
         obtain ⟨e1, e2, e3⟩ := HE.out
         rw [e1, e2, e3] at hml2
         have HPS := Lib.hid (HD.out.on hi1000 m.got (gotOk_of hbad))
         have HST := Lib.hid hst2
         have HML := Lib.hid hml2
         have HRN := Lib.hid hron
         have HBD := Lib.hid hbad
         have HLF := Lib.hid hlf
         clear e1 e2 e3 hml2 hron hbad hlf hr7 hbd hlv hst hst2 hT7 HRON HR6
         go_wp2_with (refine wpList_loadAgg _ rfl 42 _ rfl 16 (by kernel_rfl) (by kernel_rfl) ⟨wr.heap.size, 1, none⟩ rfl _ HML.out ?_)
         refine HRN.out.mono ?_
         rintro e w8 ⟨_, _, rst⟩
         obtain ⟨u, rfl, hsu⟩ := rst HBD.out HLF.out
         have hx := HT6.out.steps HB6.out (Nat.le_refl _) HST.out (Below.refl _ _) hsu
         rw [hgM, hgR] at hx
         have HX : Hid (PlayOut w1.heap.size w1 M0.g R0.g self (i + 1) v u w8) := ⟨_, _, HPS.out, hx⟩
         clear hx hsu rst HML HRN HST HPS
         go_wp2_with fail
         go_meet
         exact ⟨0, rfl, rfl, HX.out⟩
      ·by_cases k3 : kind = 3
       ·--K3
        subst k3
        clear k1 k2 hcl hnu
        cases hlf : d.left with
        | true =>
         as_aux_lemma =>
         have hlv := leave_left M d hlf wc HTW.out.m
         have hrl := rleave_left R d hlf wc HTW.out.r
         rw [hgM] at hlv
         rw [hgR] at hrl
         have hx := HTW.out.same HBW.out (Nat.le_refl _) (Below.refl _ _)
         rw [hgM, hgR] at hx
         have HX : Hid (PlayOut w1.heap.size w1 M0.g R0.g self (i + 1) (.slice none 0 0) (.slice none 0 0) wc) := ⟨_, _, HD.out.stay, hx⟩
         have HLV := Lib.hid hlv
         have HRL := Lib.hid hrl
         clear hx hlv hrl hlf
         go_wp2_with fail
         refine HLV.out.mono ?_
         rintro e w6 ⟨rfl, rfl⟩
         go_wp2_with fail
         refine HRL.out.mono ?_
         rintro e w7 ⟨rfl, rfl⟩
         go_wp2_with fail
         go_meet
         exact ⟨16, rfl, rfl, HX.out⟩
        | false =>
         as_aux_lemma =>
         have hlv := leave_any M d HD.out.od.ok hlf wc HTW.out.m
         have hrl := fun (w6 : World) (h : RAt w6 R d) => rleave_any R d HD.out.od.ok hlf w6 h
         rw [hgM] at hlv
         rw [hgR] at hrl
         have HLV := Lib.hid hlv
         have HRL := Lib.hid hrl
         clear hlv hrl hlf
         go_wp2_with fail
         refine HLV.out.mono ?_
         rintro e w6 ⟨v, rfl, hst⟩
         have hre := HTW.out.ref (by obtain ⟨_, _, _, _, _, _, _, g⟩ := hst; exact g)
         have HST := Lib.hid hst
         have HRE := Lib.hid hre
         clear hst hre HLV
         go_wp2_with fail
         refine (HRL.out w6 HRE.out).mono ?_
         rintro e w7 ⟨u, rfl, hsu⟩
         have hx := HTW.out.steps HBW.out (Nat.le_refl _) HST.out (Below.refl _ _) hsu
         rw [hgM, hgR] at hx
         have HX : Hid (PlayOut w1.heap.size w1 M0.g R0.g self (i + 1) v u w7) := ⟨_, _, HD.out.leave, hx⟩
         clear hx hsu HST HRL HRE
         go_wp2_with fail
         go_meet
         exact ⟨0, rfl, rfl, HX.out⟩
       ·--K4
        as_aux_lemma =>
        have b1 : (kind == 1) = false := by simpa using k1
        have b2 : (kind == 2) = false := by simpa using k2
        have b3 : (kind == 3) = false := by simpa using k3
        have hx := HTW.out.same HBW.out (Nat.le_refl _) (Below.refl _ _)
        rw [hgM, hgR] at hx
        have HX : Hid (PlayOut w1.heap.size w1 M0.g R0.g self (i + 1) (.slice none 0 0) (.slice none 0 0) wc) := ⟨_, _, HD.out.stay, hx⟩
        clear hx hcl hnu k1 k2 k3
        go_wp2_with fail
        go_meet
        exact ⟨0, rfl, rfl, HX.out⟩
    case rest =>
     --REST
     as_aux_lemma =>
     obtain ⟨er, rfl, rfl, HX⟩ := hcut
     clear HMS HRW HTW HMW HBW HSM HLM HLR HD hgM hgR o0 HM1 HE
     obtain ⟨d', out, hPS, M', R', ps, qs, hgM', hgR', hT', hMa, hMb, ho1, ho2, hA1, hA2, hB'⟩ := HX.out
     have hlen : qs.length = ps.length := by have := congrArg List.length (ho2.trans ho1.symm); simpa using this
     obtain ⟨oq, cq, rfl⟩ := slAt_slice hMa.1.at
     obtain ⟨ou, cu, hv2⟩ := slAt_slice hMb.1.at
     rw [hlen] at hv2
     subst hv2
     generalize wc = wb at *
     have hpl : ps.length ≤ 1000 := by have := hPS.len; rw [← ho1] at this; simpa using this
     have hal17 := fun (W : World) (hW : Below wb.heap.size wb W) => all17_sent oq ou cq cu ps qs _ _ W (hMa.below hW (Nat.le_refl _)) (hMb.below hW (Nat.le_refl _)) (ho1.trans ho2.symm) (by omega) fun p hp => by
      have := hPS.small p.2 (by rw [← ho1]; exact List.mem_map_of_mem hp)
      omega
     have hsml : ∀ p ∈ ps, p.2.ms.length ≤ 8 := fun p hp => hPS.small p.2 (by rw [← ho1]; exact List.mem_map_of_mem hp)
     have HSML := Lib.hid hsml
     obtain ⟨lf', hPD⟩ := hPS.d
     have hok := hPD.od.ok
     have hwd := fun (W : World) (hW : Below wb.heap.size wb W) => words_any M' d' W (hT'.m.below hW)
     have hra := fun (W : World) (hW : Below wb.heap.size wb W) => rall_any R'.gt d'.self d'.tab hok.tab W (hT'.r.below hW).tab
     have hlv := fun (W : World) (hW : Below wb.heap.size wb W) => liveD_any M' d' W (hT'.m.below hW)
     have hrl := fun (W : World) (hW : Below wb.heap.size wb W) => rlive_any R'.gt d'.self d'.tab hok.tab W (hT'.r.below hW).tab
     have hot := fun (W : World) (hW : Below wb.heap.size wb W) => othersD_any M' d' W (hT'.m.below hW)
     have hro := fun (W : World) (hW : Below wb.heap.size wb W) => rothers_any R'.gt d'.self d'.tab hok.tab W (hT'.r.below hW).tab
     have hin := fun (W : World) (hW : Below wb.heap.size wb W) => inc_any M' d' W (hT'.m.below hW)
     rw [hgM'] at hwd hlv hot hin
     have h8a := allT_len d'.tab
     have h8l := liveT_len d'.tab
     have h8o := othersT_len d'.self d'.tab
     have r3 : wb.cell? ⟨R0.g, 3, none⟩ = some (.pointer (some ⟨R'.gt, 0, none⟩)) := by rw [← hgR']; exact hT'.r.cell 3
     have r11 : wb.cell? ⟨R0.g, 11, none⟩ = some (.int .i64 d'.inc) := by rw [← hgR']; exact hT'.r.cell 11
     have r7 : wb.cell? ⟨R0.g, 7, none⟩ = some (.bool d'.pr.isSome) := by rw [← hgR']; exact hT'.r.cell 7
     have r8 : wb.cell? ⟨R0.g, 8, none⟩ = some (.int .i64 R'.tgt) := by rw [← hgR']; exact hT'.r.cell 8
     have hgr : R0.g < wb.heap.size := by rw [← hgR']; exact hT'.r.lt
     have htt : ∃ (ok : Bool) (tg : Int), d'.pr.isSome = ok ∧ (ok = true → (tg != R'.tgt) = false) ∧ (ok = false → tg = 0) ∧ ∀ W : World, Below wb.heap.size wb W → Calls Tryz.prog 36 #[.pointer (some ⟨M0.g, 0, none⟩)] W fun e w' => e = .returned (.tuple #[.int .i64 tg, .bool ok]) ∧ Below W.heap.size W w' := by
      cases hpr : d'.pr with
      | none =>
       refine ⟨false, 0, rfl, (fun h => by cases h), (fun _ => rfl), fun W hW => ?_⟩
       have h := target_any M' d' W (hT'.m.below hW)
       rw [hgM', hpr] at h
       exact h
      | some p =>
       refine ⟨true, p.2, rfl, (fun _ => by rw [(hT'.r.opn.pr p hpr).2.1]; simp), (fun h => by cases h), fun W hW => ?_⟩
       have h := target_any M' d' W (hT'.m.below hW)
       rw [hgM', hpr] at h
       exact h
     obtain ⟨ok, tg, t1, t2, t3, htg⟩ := htt
     rw [t1] at r7
     have HALL := Lib.hid hal17
     have HWD := Lib.hid hwd
     have HRA := Lib.hid hra
     have HLV := Lib.hid hlv
     have HRL := Lib.hid hrl
     have HOT := Lib.hid hot
     have HRO := Lib.hid hro
     have HINC := Lib.hid hin
     have HTG := Lib.hid htg
     have HPD := Lib.hid hPD
     have HT' := Lib.hid hT'
     have HMa := Lib.hid hMa
     have HA1 := Lib.hid hA1
     have HA2 := Lib.hid hA2
     have HB' := Lib.hid hB'
     have HT2 := Lib.hid t2
     have HT3 := Lib.hid t3
     clear hsml hal17 hwd hra hlv hrl hot hro hin htg hPD hT' hMa hMb hA1 hA2 hB' ho1 ho2 hPS HX hlen t1 t2 t3 hok
     generalize hal : allT d'.tab = al at *
     generalize hlvv : liveT d'.tab = lv at *
     generalize hott : othersT d'.self d'.tab = ot at *
     generalize hinc : d'.inc = inc2 at *
     clear hal hlvv hott hinc
     have HW18 : Hid (∀ (o1 o2 : Option Addr) (c1 c2 : Nat) (W : World), SlAt Mb.cells W (.slice o1 al.length c1) al → SlAt Mb.cells W (.slice o2 al.length c2) al → Calls Tryz.prog 32 #[.slice o1 al.length c1, .slice o2 al.length c2] W fun e w' => e = .returned (.bool true) ∧ ∃ q, w' = W.drewN q) := fun o1 o2 c1 c2 W h1 h2 => words_same o1 o2 c1 c2 al W h1 h2 (by omega)
     have HIN1 : Hid (∀ (o1 o2 : Option Addr) (c1 c2 : Nat) (W : World), SlAt icells W (.slice o1 lv.length c1) lv → SlAt icells W (.slice o2 lv.length c2) lv → Calls Tryz.prog 23 #[.slice o1 lv.length c1, .slice o2 lv.length c2] W fun e w' => e = .returned (.bool true) ∧ ∃ q, w' = W.drewN q) := fun o1 o2 c1 c2 W h1 h2 => ints_same o1 o2 c1 c2 lv W h1 h2 (by omega)
     have HIN2 : Hid (∀ (o1 o2 : Option Addr) (c1 c2 : Nat) (W : World), SlAt icells W (.slice o1 ot.length c1) ot → SlAt icells W (.slice o2 ot.length c2) ot → Calls Tryz.prog 23 #[.slice o1 ot.length c1, .slice o2 ot.length c2] W fun e w' => e = .returned (.bool true) ∧ ∃ q, w' = W.drewN q) := fun o1 o2 c1 c2 W h1 h2 => ints_same o1 o2 c1 c2 ot W h1 h2 (by omega)
     go_upto_region 24 with fail
     go_cut [156] (fun s156 wx => s156 = .bool false ∧ Hid (Below wb.heap.size wb wx))
     case first =>
      as_aux_lemma =>
      refine tell_region (by kernel_rfl) [(106, fun v _ => v = .slice oq ps.length cq), (107, fun v _ => v = .slice ou ps.length cu), (108, fun v _ => v = .bool true), (109, fun v _ => v = .bool false), (110, fun v _ => v = .bool false), (111, fun v _ => v = .int .i64 er), (112, fun v _ => v = .int .i64 er), (113, fun v _ => v = .bool false), (114, fun v _ => v = .bool false), (115, fun v _ => v = .bool false), (116, fun v _ => v = .pointer (some ⟨M0.g, 0, none⟩)), (117, fun v W => ∃ o c, v = .slice o al.length c ∧ SlAt Mb.cells W (.slice o al.length c) al), (118, fun v _ => v = .pointer (some ⟨R0.g, 0, none⟩)), (119, fun v _ => v = .pointer (some ⟨R0.g, 0, none⟩)), (120, fun v _ => v = .pointer (some ⟨R0.g, 3, none⟩)), (121, fun v _ => v = .pointer (some ⟨R'.gt, 0, none⟩)), (122, fun v W => ∃ o c, v = .slice o al.length c ∧ SlAt Mb.cells W (.slice o al.length c) al), (123, fun v _ => v = .bool true), (124, fun v _ => v = .bool false), (125, fun v _ => v = .bool false), (126, fun v _ => v = .bool false), (127, fun v _ => v = .pointer (some ⟨M0.g, 0, none⟩)), (128, fun v W => ∃ o c, v = .slice o lv.length c ∧ SlAt icells W (.slice o lv.length c) lv), (129, fun v _ => v = .pointer (some ⟨R0.g, 0, none⟩)), (130, fun v _ => v = .pointer (some ⟨R0.g, 0, none⟩)), (131, fun v _ => v = .pointer (some ⟨R0.g, 3, none⟩)), (132, fun v _ => v = .pointer (some ⟨R'.gt, 0, none⟩)), (133, fun v W => ∃ o c, v = .slice o lv.length c ∧ SlAt icells W (.slice o lv.length c) lv), (134, fun v _ => v = .bool true), (135, fun v _ => v = .bool false), (136, fun v _ => v = .bool false), (137, fun v _ => v = .bool false), (138, fun v _ => v = .pointer (some ⟨M0.g, 0, none⟩)), (139, fun v W => ∃ o c, v = .slice o ot.length c ∧ SlAt icells W (.slice o ot.length c) ot), (140, fun v _ => v = .pointer (some ⟨R0.g, 0, none⟩)), (141, fun v _ => v = .pointer (some ⟨R0.g, 0, none⟩)), (142, fun v _ => v = .pointer (some ⟨R0.g, 3, none⟩)), (143, fun v _ => v = .pointer (some ⟨R'.gt, 0, none⟩)), (144, fun v W => ∃ o c, v = .slice o ot.length c ∧ SlAt icells W (.slice o ot.length c) ot), (145, fun v _ => v = .bool true), (146, fun v _ => v = .bool false), (147, fun v _ => v = .bool false), (148, fun v _ => v = .bool false), (149, fun v _ => v = .pointer (some ⟨M0.g, 0, none⟩)), (150, fun v _ => v = .int .i64 inc2), (151, fun v _ => v = .pointer (some ⟨R0.g, 0, none⟩)), (152, fun v _ => v = .pointer (some ⟨R0.g, 0, none⟩)), (153, fun v _ => v = .pointer (some ⟨R0.g, 11, none⟩)), (154, fun v _ => v = .int .i64 inc2), (155, fun v _ => v = .bool false), (156, fun v _ => v = .bool false)] rfl (by show ([106, 107, 108, 109, 110, 111, 112, 113, 114, 115, 116, 117, 118, 119, 120, 121, 122, 123, 124, 125, 126, 127, 128, 129, 130, 131, 132, 133, 134, 135, 136, 137, 138, 139, 140, 141, 142, 143, 144, 145, 146, 147, 148, 149, 150, 151, 152, 153, 154, 155, 156] : List Nat).Nodup; decide) (by show ∀ d ∈ ([106, 107, 108, 109, 110, 111, 112, 113, 114, 115, 116, 117, 118, 119, 120, 121, 122, 123, 124, 125, 126, 127, 128, 129, 130, 131, 132, 133, 134, 135, 136, 137, 138, 139, 140, 141, 142, 143, 144, 145, 146, 147, 148, 149, 150, 151, 152, 153, 154, 155, 156] : List Nat), d < 212; decide) (by kernel_rfl) ?hmono ?hstep ?hend
      case hmono =>
       intro p hp
       simp only [List.mem_cons, List.not_mem_nil, or_false] at hp
       rcases hp with rfl | rfl | rfl | rfl | rfl | rfl | rfl | rfl | rfl | rfl | rfl | rfl | rfl | rfl | rfl | rfl | rfl | rfl | rfl | rfl | rfl | rfl | rfl | rfl | rfl | rfl | rfl | rfl | rfl | rfl | rfl | rfl | rfl | rfl | rfl | rfl | rfl | rfl | rfl | rfl | rfl | rfl | rfl | rfl | rfl | rfl | rfl | rfl | rfl | rfl | rfl
       ·exact lasts_pure _
       ·exact lasts_pure _
       ·exact lasts_pure _
       ·exact lasts_pure _
       ·exact lasts_pure _
       ·exact lasts_pure _
       ·exact lasts_pure _
       ·exact lasts_pure _
       ·exact lasts_pure _
       ·exact lasts_pure _
       ·exact lasts_pure _
       ·intro v W W' hb hh
        obtain ⟨o, c, h1, h2⟩ := hh
        exact ⟨o, c, h1, h2.below Mb.cells_len (by decide) hb (Nat.le_refl _)⟩
       ·exact lasts_pure _
       ·exact lasts_pure _
       ·exact lasts_pure _
       ·exact lasts_pure _
       ·intro v W W' hb hh
        obtain ⟨o, c, h1, h2⟩ := hh
        exact ⟨o, c, h1, h2.below Mb.cells_len (by decide) hb (Nat.le_refl _)⟩
       ·exact lasts_pure _
       ·exact lasts_pure _
       ·exact lasts_pure _
       ·exact lasts_pure _
       ·exact lasts_pure _
       ·intro v W W' hb hh
        obtain ⟨o, c, h1, h2⟩ := hh
        exact ⟨o, c, h1, h2.below icells_len (by decide) hb (Nat.le_refl _)⟩
       ·exact lasts_pure _
       ·exact lasts_pure _
       ·exact lasts_pure _
       ·exact lasts_pure _
       ·intro v W W' hb hh
        obtain ⟨o, c, h1, h2⟩ := hh
        exact ⟨o, c, h1, h2.below icells_len (by decide) hb (Nat.le_refl _)⟩
       ·exact lasts_pure _
       ·exact lasts_pure _
       ·exact lasts_pure _
       ·exact lasts_pure _
       ·exact lasts_pure _
       ·intro v W W' hb hh
        obtain ⟨o, c, h1, h2⟩ := hh
        exact ⟨o, c, h1, h2.below icells_len (by decide) hb (Nat.le_refl _)⟩
       ·exact lasts_pure _
       ·exact lasts_pure _
       ·exact lasts_pure _
       ·exact lasts_pure _
       ·intro v W W' hb hh
        obtain ⟨o, c, h1, h2⟩ := hh
        exact ⟨o, c, h1, h2.below icells_len (by decide) hb (Nat.le_refl _)⟩
       ·exact lasts_pure _
       ·exact lasts_pure _
       ·exact lasts_pure _
       ·exact lasts_pure _
       ·exact lasts_pure _
       ·exact lasts_pure _
       ·exact lasts_pure _
       ·exact lasts_pure _
       ·exact lasts_pure _
       ·exact lasts_pure _
       ·exact lasts_pure _
       ·exact lasts_pure _
      case hstep =>
       intro i hi r w' hag hbel hn
       have hi2 : i < 51 := hi
       rcases (show i = 0 ∨ i = 1 ∨ i = 2 ∨ i = 3 ∨ i = 4 ∨ i = 5 ∨ i = 6 ∨ i = 7 ∨ i = 8 ∨ i = 9 ∨ i = 10 ∨ i = 11 ∨ i = 12 ∨ i = 13 ∨ i = 14 ∨ i = 15 ∨ i = 16 ∨ i = 17 ∨ i = 18 ∨ i = 19 ∨ i = 20 ∨ i = 21 ∨ i = 22 ∨ i = 23 ∨ i = 24 ∨ i = 25 ∨ i = 26 ∨ i = 27 ∨ i = 28 ∨ i = 29 ∨ i = 30 ∨ i = 31 ∨ i = 32 ∨ i = 33 ∨ i = 34 ∨ i = 35 ∨ i = 36 ∨ i = 37 ∨ i = 38 ∨ i = 39 ∨ i = 40 ∨ i = 41 ∨ i = 42 ∨ i = 43 ∨ i = 44 ∨ i = 45 ∨ i = 46 ∨ i = 47 ∨ i = 48 ∨ i = 49 ∨ i = 50 by omega) with rfl | rfl | rfl | rfl | rfl | rfl | rfl | rfl | rfl | rfl | rfl | rfl | rfl | rfl | rfl | rfl | rfl | rfl | rfl | rfl | rfl | rfl | rfl | rfl | rfl | rfl | rfl | rfl | rfl | rfl | rfl | rfl | rfl | rfl | rfl | rfl | rfl | rfl | rfl | rfl | rfl | rfl | rfl | rfl | rfl | rfl | rfl | rfl | rfl | rfl | rfl
       ·skip
        have e11 : r.eval (.tmp 11) = .slice oq ps.length cq := (hag.out 11 (by simp)).trans rfl
        exact leaves_val rfl rfl rfl (v := .slice oq ps.length cq) (by generalize r.eval = ρ at e11 ⊢; go_simp) (Below.refl _ _) rfl
       ·skip
        have e12 : r.eval (.tmp 12) = .slice ou ps.length cu := (hag.out 12 (by simp)).trans rfl
        exact leaves_val rfl rfl rfl (v := .slice ou ps.length cu) (by generalize r.eval = ρ at e12 ⊢; go_simp) (Below.refl _ _) rfl
       ·skip
        have e106 : r.eval (.tmp 106) = .slice oq ps.length cq := hn 0 (by simp) ⟨_, rfl, ⟨0, .data⟩, by simp, rfl, rfl⟩
        have e107 : r.eval (.tmp 107) = .slice ou ps.length cu := hn 1 (by simp) ⟨_, rfl, ⟨1, .data⟩, by simp, rfl, rfl⟩
        refine leaves_call (f := 31) (args := #[.slice oq ps.length cq, .slice ou ps.length cu]) rfl rfl rfl (by have ef : r.eval (.func 31) = .func (.func 31) #[] #[] := rfl; generalize r.eval = ρ at ef e106 e107 ⊢; go_simp) (HALL.out w' hbel) ?_
        rintro e2 w2 ⟨rfl, hb⟩
        exact ⟨_, rfl, hb, rfl⟩
       ·skip
        have e108 : r.eval (.tmp 108) = .bool true := hn 2 (by simp) ⟨_, rfl, ⟨2, .data⟩, by simp, rfl, rfl⟩
        exact leaves_val rfl rfl rfl (v := .bool false) (by generalize r.eval = ρ at e108 ⊢; go_simp) (Below.refl _ _) rfl
       ·skip
        have e109 : r.eval (.tmp 109) = .bool false := hn 3 (by simp) ⟨_, rfl, ⟨3, .data⟩, by simp, rfl, rfl⟩
        exact leaves_val rfl rfl rfl (v := .bool false) (by generalize r.eval = ρ at e109 ⊢; go_simp) (Below.refl _ _) rfl
       ·skip
        have eg : r.eval (.tmp 110) = .bool false := hn 4 (by simp) ⟨_, rfl, ⟨4, .guard⟩, by simp, rfl, rfl⟩
        have e13 : r.eval (.tmp 13) = .int .i64 er := (hag.out 13 (by simp)).trans rfl
        exact leaves_val_g rfl rfl rfl rfl rfl (by rw [hag.size]; show 110 < 212; decide) eg (v := .int .i64 er) (by generalize r.eval = ρ at e13 ⊢; go_simp) (Below.refl _ _) rfl
       ·skip
        have eg : r.eval (.tmp 110) = .bool false := hn 4 (by simp) ⟨_, rfl, ⟨4, .guard⟩, by simp, rfl, rfl⟩
        have e14 : r.eval (.tmp 14) = .int .i64 er := (hag.out 14 (by simp)).trans rfl
        exact leaves_val_g rfl rfl rfl rfl rfl (by rw [hag.size]; show 110 < 212; decide) eg (v := .int .i64 er) (by generalize r.eval = ρ at e14 ⊢; go_simp) (Below.refl _ _) rfl
       ·skip
        have eg : r.eval (.tmp 110) = .bool false := hn 4 (by simp) ⟨_, rfl, ⟨4, .guard⟩, by simp, rfl, rfl⟩
        have e111 : r.eval (.tmp 111) = .int .i64 er := hn 5 (by simp) ⟨_, rfl, ⟨5, .data⟩, by simp, rfl, rfl⟩
        have e112 : r.eval (.tmp 112) = .int .i64 er := hn 6 (by simp) ⟨_, rfl, ⟨6, .data⟩, by simp, rfl, rfl⟩
        exact leaves_val_g rfl rfl rfl rfl rfl (by rw [hag.size]; show 110 < 212; decide) eg (v := .bool false) (by generalize r.eval = ρ at e111 e112 ⊢; go_simp) (Below.refl _ _) rfl
       ·skip
        have e110 : r.eval (.tmp 110) = .bool false := hn 4 (by simp) ⟨_, rfl, ⟨4, .data⟩, by simp, rfl, rfl⟩
        have e113 : r.eval (.tmp 113) = .bool false := hn 7 (by simp) ⟨_, rfl, ⟨7, .data⟩, by simp, rfl, rfl⟩
        have ec0 : r.eval (.const (.bool true)) = .bool true := rfl
        exact leaves_val rfl rfl rfl (v := .bool false) (by generalize r.eval = ρ at e110 e113 ec0 ⊢; go_simp) (Below.refl _ _) rfl
       ·skip
        have e114 : r.eval (.tmp 114) = .bool false := hn 8 (by simp) ⟨_, rfl, ⟨8, .data⟩, by simp, rfl, rfl⟩
        exact leaves_val rfl rfl rfl (v := .bool false) (by generalize r.eval = ρ at e114 ⊢; go_simp) (Below.refl _ _) rfl
       ·skip
        have eg : r.eval (.tmp 115) = .bool false := hn 9 (by simp) ⟨_, rfl, ⟨9, .guard⟩, by simp, rfl, rfl⟩
        have e5 : r.eval (.tmp 5) = .pointer (some ⟨M0.g, 0, none⟩) := (hag.out 5 (by simp)).trans rfl
        exact leaves_val_g rfl rfl rfl rfl rfl (by rw [hag.size]; show 115 < 212; decide) eg (v := .pointer (some ⟨M0.g, 0, none⟩)) (by generalize r.eval = ρ at e5 ⊢; go_simp) (Below.refl _ _) rfl
       ·skip
        have eg : r.eval (.tmp 115) = .bool false := hn 9 (by simp) ⟨_, rfl, ⟨9, .guard⟩, by simp, rfl, rfl⟩
        have e116 : r.eval (.tmp 116) = .pointer (some ⟨M0.g, 0, none⟩) := hn 10 (by simp) ⟨_, rfl, ⟨10, .data⟩, by simp, rfl, rfl⟩
        have e116 : r.eval (.tmp 116) = .pointer (some ⟨M0.g, 0, none⟩) := hn 10 (by simp) ⟨_, rfl, ⟨10, .data⟩, by simp, rfl, rfl⟩
        refine leaves_call_g (f := 16) (args := #[.pointer (some ⟨M0.g, 0, none⟩)]) rfl rfl rfl rfl rfl (by rw [hag.size]; show 115 < 212; decide) eg (by have ef : r.eval (.func 16) = .func (.func 16) #[] #[] := rfl; generalize r.eval = ρ at ef e116 ⊢; go_simp) (HWD.out w' hbel) ?_
        rintro e2 w2 ⟨o, c, rfl, ho, hb⟩
        exact ⟨_, rfl, hb, o, c, rfl, ho.at⟩
       ·skip
        have eg : r.eval (.tmp 115) = .bool false := hn 9 (by simp) ⟨_, rfl, ⟨9, .guard⟩, by simp, rfl, rfl⟩
        have e7 : r.eval (.tmp 7) = .pointer (some ⟨R0.g, 0, none⟩) := (hag.out 7 (by simp)).trans rfl
        exact leaves_val_g rfl rfl rfl rfl rfl (by rw [hag.size]; show 115 < 212; decide) eg (v := .pointer (some ⟨R0.g, 0, none⟩)) (by generalize r.eval = ρ at e7 ⊢; go_simp) (Below.refl _ _) rfl
       ·skip
        have eg : r.eval (.tmp 115) = .bool false := hn 9 (by simp) ⟨_, rfl, ⟨9, .guard⟩, by simp, rfl, rfl⟩
        have e118 : r.eval (.tmp 118) = .pointer (some ⟨R0.g, 0, none⟩) := hn 12 (by simp) ⟨_, rfl, ⟨12, .data⟩, by simp, rfl, rfl⟩
        exact leaves_val_g rfl rfl rfl rfl rfl (by rw [hag.size]; show 115 < 212; decide) eg (v := .pointer (some ⟨R0.g, 0, none⟩)) (by generalize r.eval = ρ at e118 ⊢; go_simp) (Below.refl _ _) rfl
       ·skip
        have eg : r.eval (.tmp 115) = .bool false := hn 9 (by simp) ⟨_, rfl, ⟨9, .guard⟩, by simp, rfl, rfl⟩
        have e119 : r.eval (.tmp 119) = .pointer (some ⟨R0.g, 0, none⟩) := hn 13 (by simp) ⟨_, rfl, ⟨13, .data⟩, by simp, rfl, rfl⟩
        exact leaves_val_g rfl rfl rfl rfl rfl (by rw [hag.size]; show 115 < 212; decide) eg (v := .pointer (some ⟨R0.g, 3, none⟩)) (by generalize r.eval = ρ at e119 ⊢; go_simp) (Below.refl _ _) rfl
       ·skip
        have eg : r.eval (.tmp 115) = .bool false := hn 9 (by simp) ⟨_, rfl, ⟨9, .guard⟩, by simp, rfl, rfl⟩
        have e120 : r.eval (.tmp 120) = .pointer (some ⟨R0.g, 3, none⟩) := hn 14 (by simp) ⟨_, rfl, ⟨14, .data⟩, by simp, rfl, rfl⟩
        have c3 : w'.cell? ⟨R0.g, 3, none⟩ = some (.pointer (some ⟨R'.gt, 0, none⟩)) := (hbel.cell (p := ⟨R0.g, 3, none⟩) hgr).trans r3
        exact leaves_val_g rfl rfl rfl rfl rfl (by rw [hag.size]; show 115 < 212; decide) eg (v := .pointer (some ⟨R'.gt, 0, none⟩)) (by generalize r.eval = ρ at e120 ⊢; go_simp) (Below.refl _ _) rfl
       ·skip
        have eg : r.eval (.tmp 115) = .bool false := hn 9 (by simp) ⟨_, rfl, ⟨9, .guard⟩, by simp, rfl, rfl⟩
        have e121 : r.eval (.tmp 121) = .pointer (some ⟨R'.gt, 0, none⟩) := hn 15 (by simp) ⟨_, rfl, ⟨15, .data⟩, by simp, rfl, rfl⟩
        have e121 : r.eval (.tmp 121) = .pointer (some ⟨R'.gt, 0, none⟩) := hn 15 (by simp) ⟨_, rfl, ⟨15, .data⟩, by simp, rfl, rfl⟩
        refine leaves_call_g (f := 33) (args := #[.pointer (some ⟨R'.gt, 0, none⟩)]) rfl rfl rfl rfl rfl (by rw [hag.size]; show 115 < 212; decide) eg (by have ef : r.eval (.func 33) = .func (.func 33) #[] #[] := rfl; generalize r.eval = ρ at ef e121 ⊢; go_simp) (HRA.out w' hbel) ?_
        rintro e2 w2 ⟨o, c, rfl, ho, hb⟩
        exact ⟨_, rfl, hb, o, c, rfl, ho.at⟩
       ·skip
        have eg : r.eval (.tmp 115) = .bool false := hn 9 (by simp) ⟨_, rfl, ⟨9, .guard⟩, by simp, rfl, rfl⟩
        obtain ⟨o1, c1, e117, h1⟩ : ∃ o c, r.eval (.tmp 117) = .slice o al.length c ∧ SlAt Mb.cells w' (.slice o al.length c) al := hn 11 (by simp) ⟨_, rfl, ⟨11, .data⟩, by simp, rfl, rfl⟩
        obtain ⟨o2, c2, e122, h2⟩ : ∃ o c, r.eval (.tmp 122) = .slice o al.length c ∧ SlAt Mb.cells w' (.slice o al.length c) al := hn 16 (by simp) ⟨_, rfl, ⟨16, .data⟩, by simp, rfl, rfl⟩
        refine leaves_call_g (f := 32) (args := #[.slice o1 al.length c1, .slice o2 al.length c2]) rfl rfl rfl rfl rfl (by rw [hag.size]; show 115 < 212; decide) eg (by have ef : r.eval (.func 32) = .func (.func 32) #[] #[] := rfl; generalize r.eval = ρ at ef e117 e122 ⊢; go_simp) (HW18.out o1 o2 c1 c2 w' h1 h2) ?_
        rintro e2 w2 ⟨rfl, q, rfl⟩
        exact ⟨_, rfl, below_drewN _ _, rfl⟩
       ·skip
        have eg : r.eval (.tmp 115) = .bool false := hn 9 (by simp) ⟨_, rfl, ⟨9, .guard⟩, by simp, rfl, rfl⟩
        have e123 : r.eval (.tmp 123) = .bool true := hn 17 (by simp) ⟨_, rfl, ⟨17, .data⟩, by simp, rfl, rfl⟩
        exact leaves_val_g rfl rfl rfl rfl rfl (by rw [hag.size]; show 115 < 212; decide) eg (v := .bool false) (by generalize r.eval = ρ at e123 ⊢; go_simp) (Below.refl _ _) rfl
       ·skip
        have e115 : r.eval (.tmp 115) = .bool false := hn 9 (by simp) ⟨_, rfl, ⟨9, .data⟩, by simp, rfl, rfl⟩
        have e124 : r.eval (.tmp 124) = .bool false := hn 18 (by simp) ⟨_, rfl, ⟨18, .data⟩, by simp, rfl, rfl⟩
        have ec0 : r.eval (.const (.bool true)) = .bool true := rfl
        exact leaves_val rfl rfl rfl (v := .bool false) (by generalize r.eval = ρ at e115 e124 ec0 ⊢; go_simp) (Below.refl _ _) rfl
       ·skip
        have e125 : r.eval (.tmp 125) = .bool false := hn 19 (by simp) ⟨_, rfl, ⟨19, .data⟩, by simp, rfl, rfl⟩
        exact leaves_val rfl rfl rfl (v := .bool false) (by generalize r.eval = ρ at e125 ⊢; go_simp) (Below.refl _ _) rfl
       ·skip
        have eg : r.eval (.tmp 126) = .bool false := hn 20 (by simp) ⟨_, rfl, ⟨20, .guard⟩, by simp, rfl, rfl⟩
        have e5 : r.eval (.tmp 5) = .pointer (some ⟨M0.g, 0, none⟩) := (hag.out 5 (by simp)).trans rfl
        exact leaves_val_g rfl rfl rfl rfl rfl (by rw [hag.size]; show 126 < 212; decide) eg (v := .pointer (some ⟨M0.g, 0, none⟩)) (by generalize r.eval = ρ at e5 ⊢; go_simp) (Below.refl _ _) rfl
       ·skip
        have eg : r.eval (.tmp 126) = .bool false := hn 20 (by simp) ⟨_, rfl, ⟨20, .guard⟩, by simp, rfl, rfl⟩
        have e127 : r.eval (.tmp 127) = .pointer (some ⟨M0.g, 0, none⟩) := hn 21 (by simp) ⟨_, rfl, ⟨21, .data⟩, by simp, rfl, rfl⟩
        have e127 : r.eval (.tmp 127) = .pointer (some ⟨M0.g, 0, none⟩) := hn 21 (by simp) ⟨_, rfl, ⟨21, .data⟩, by simp, rfl, rfl⟩
        refine leaves_call_g (f := 24) (args := #[.pointer (some ⟨M0.g, 0, none⟩)]) rfl rfl rfl rfl rfl (by rw [hag.size]; show 126 < 212; decide) eg (by have ef : r.eval (.func 24) = .func (.func 24) #[] #[] := rfl; generalize r.eval = ρ at ef e127 ⊢; go_simp) (HLV.out w' hbel) ?_
        rintro e2 w2 ⟨o, c, rfl, ho, hb⟩
        exact ⟨_, rfl, hb, o, c, rfl, ho.at⟩
       ·skip
        have eg : r.eval (.tmp 126) = .bool false := hn 20 (by simp) ⟨_, rfl, ⟨20, .guard⟩, by simp, rfl, rfl⟩
        have e7 : r.eval (.tmp 7) = .pointer (some ⟨R0.g, 0, none⟩) := (hag.out 7 (by simp)).trans rfl
        exact leaves_val_g rfl rfl rfl rfl rfl (by rw [hag.size]; show 126 < 212; decide) eg (v := .pointer (some ⟨R0.g, 0, none⟩)) (by generalize r.eval = ρ at e7 ⊢; go_simp) (Below.refl _ _) rfl
       ·skip
        have eg : r.eval (.tmp 126) = .bool false := hn 20 (by simp) ⟨_, rfl, ⟨20, .guard⟩, by simp, rfl, rfl⟩
        have e129 : r.eval (.tmp 129) = .pointer (some ⟨R0.g, 0, none⟩) := hn 23 (by simp) ⟨_, rfl, ⟨23, .data⟩, by simp, rfl, rfl⟩
        exact leaves_val_g rfl rfl rfl rfl rfl (by rw [hag.size]; show 126 < 212; decide) eg (v := .pointer (some ⟨R0.g, 0, none⟩)) (by generalize r.eval = ρ at e129 ⊢; go_simp) (Below.refl _ _) rfl
       ·skip
        have eg : r.eval (.tmp 126) = .bool false := hn 20 (by simp) ⟨_, rfl, ⟨20, .guard⟩, by simp, rfl, rfl⟩
        have e130 : r.eval (.tmp 130) = .pointer (some ⟨R0.g, 0, none⟩) := hn 24 (by simp) ⟨_, rfl, ⟨24, .data⟩, by simp, rfl, rfl⟩
        exact leaves_val_g rfl rfl rfl rfl rfl (by rw [hag.size]; show 126 < 212; decide) eg (v := .pointer (some ⟨R0.g, 3, none⟩)) (by generalize r.eval = ρ at e130 ⊢; go_simp) (Below.refl _ _) rfl
       ·skip
        have eg : r.eval (.tmp 126) = .bool false := hn 20 (by simp) ⟨_, rfl, ⟨20, .guard⟩, by simp, rfl, rfl⟩
        have e131 : r.eval (.tmp 131) = .pointer (some ⟨R0.g, 3, none⟩) := hn 25 (by simp) ⟨_, rfl, ⟨25, .data⟩, by simp, rfl, rfl⟩
        have c3 : w'.cell? ⟨R0.g, 3, none⟩ = some (.pointer (some ⟨R'.gt, 0, none⟩)) := (hbel.cell (p := ⟨R0.g, 3, none⟩) hgr).trans r3
        exact leaves_val_g rfl rfl rfl rfl rfl (by rw [hag.size]; show 126 < 212; decide) eg (v := .pointer (some ⟨R'.gt, 0, none⟩)) (by generalize r.eval = ρ at e131 ⊢; go_simp) (Below.refl _ _) rfl
       ·skip
        have eg : r.eval (.tmp 126) = .bool false := hn 20 (by simp) ⟨_, rfl, ⟨20, .guard⟩, by simp, rfl, rfl⟩
        have e132 : r.eval (.tmp 132) = .pointer (some ⟨R'.gt, 0, none⟩) := hn 26 (by simp) ⟨_, rfl, ⟨26, .data⟩, by simp, rfl, rfl⟩
        have e132 : r.eval (.tmp 132) = .pointer (some ⟨R'.gt, 0, none⟩) := hn 26 (by simp) ⟨_, rfl, ⟨26, .data⟩, by simp, rfl, rfl⟩
        refine leaves_call_g (f := 34) (args := #[.pointer (some ⟨R'.gt, 0, none⟩)]) rfl rfl rfl rfl rfl (by rw [hag.size]; show 126 < 212; decide) eg (by have ef : r.eval (.func 34) = .func (.func 34) #[] #[] := rfl; generalize r.eval = ρ at ef e132 ⊢; go_simp) (HRL.out w' hbel) ?_
        rintro e2 w2 ⟨o, c, rfl, ho, hb⟩
        exact ⟨_, rfl, hb, o, c, rfl, ho.at⟩
       ·skip
        have eg : r.eval (.tmp 126) = .bool false := hn 20 (by simp) ⟨_, rfl, ⟨20, .guard⟩, by simp, rfl, rfl⟩
        obtain ⟨o1, c1, e128, h1⟩ : ∃ o c, r.eval (.tmp 128) = .slice o lv.length c ∧ SlAt icells w' (.slice o lv.length c) lv := hn 22 (by simp) ⟨_, rfl, ⟨22, .data⟩, by simp, rfl, rfl⟩
        obtain ⟨o2, c2, e133, h2⟩ : ∃ o c, r.eval (.tmp 133) = .slice o lv.length c ∧ SlAt icells w' (.slice o lv.length c) lv := hn 27 (by simp) ⟨_, rfl, ⟨27, .data⟩, by simp, rfl, rfl⟩
        refine leaves_call_g (f := 23) (args := #[.slice o1 lv.length c1, .slice o2 lv.length c2]) rfl rfl rfl rfl rfl (by rw [hag.size]; show 126 < 212; decide) eg (by have ef : r.eval (.func 23) = .func (.func 23) #[] #[] := rfl; generalize r.eval = ρ at ef e128 e133 ⊢; go_simp) (HIN1.out o1 o2 c1 c2 w' h1 h2) ?_
        rintro e2 w2 ⟨rfl, q, rfl⟩
        exact ⟨_, rfl, below_drewN _ _, rfl⟩
       ·skip
        have eg : r.eval (.tmp 126) = .bool false := hn 20 (by simp) ⟨_, rfl, ⟨20, .guard⟩, by simp, rfl, rfl⟩
        have e134 : r.eval (.tmp 134) = .bool true := hn 28 (by simp) ⟨_, rfl, ⟨28, .data⟩, by simp, rfl, rfl⟩
        exact leaves_val_g rfl rfl rfl rfl rfl (by rw [hag.size]; show 126 < 212; decide) eg (v := .bool false) (by generalize r.eval = ρ at e134 ⊢; go_simp) (Below.refl _ _) rfl
       ·skip
        have e126 : r.eval (.tmp 126) = .bool false := hn 20 (by simp) ⟨_, rfl, ⟨20, .data⟩, by simp, rfl, rfl⟩
        have e135 : r.eval (.tmp 135) = .bool false := hn 29 (by simp) ⟨_, rfl, ⟨29, .data⟩, by simp, rfl, rfl⟩
        have ec0 : r.eval (.const (.bool true)) = .bool true := rfl
        exact leaves_val rfl rfl rfl (v := .bool false) (by generalize r.eval = ρ at e126 e135 ec0 ⊢; go_simp) (Below.refl _ _) rfl
       ·skip
        have e136 : r.eval (.tmp 136) = .bool false := hn 30 (by simp) ⟨_, rfl, ⟨30, .data⟩, by simp, rfl, rfl⟩
        exact leaves_val rfl rfl rfl (v := .bool false) (by generalize r.eval = ρ at e136 ⊢; go_simp) (Below.refl _ _) rfl
       ·skip
        have eg : r.eval (.tmp 137) = .bool false := hn 31 (by simp) ⟨_, rfl, ⟨31, .guard⟩, by simp, rfl, rfl⟩
        have e5 : r.eval (.tmp 5) = .pointer (some ⟨M0.g, 0, none⟩) := (hag.out 5 (by simp)).trans rfl
        exact leaves_val_g rfl rfl rfl rfl rfl (by rw [hag.size]; show 137 < 212; decide) eg (v := .pointer (some ⟨M0.g, 0, none⟩)) (by generalize r.eval = ρ at e5 ⊢; go_simp) (Below.refl _ _) rfl
       ·skip
        have eg : r.eval (.tmp 137) = .bool false := hn 31 (by simp) ⟨_, rfl, ⟨31, .guard⟩, by simp, rfl, rfl⟩
        have e138 : r.eval (.tmp 138) = .pointer (some ⟨M0.g, 0, none⟩) := hn 32 (by simp) ⟨_, rfl, ⟨32, .data⟩, by simp, rfl, rfl⟩
        have e138 : r.eval (.tmp 138) = .pointer (some ⟨M0.g, 0, none⟩) := hn 32 (by simp) ⟨_, rfl, ⟨32, .data⟩, by simp, rfl, rfl⟩
        refine leaves_call_g (f := 17) (args := #[.pointer (some ⟨M0.g, 0, none⟩)]) rfl rfl rfl rfl rfl (by rw [hag.size]; show 137 < 212; decide) eg (by have ef : r.eval (.func 17) = .func (.func 17) #[] #[] := rfl; generalize r.eval = ρ at ef e138 ⊢; go_simp) (HOT.out w' hbel) ?_
        rintro e2 w2 ⟨o, c, rfl, ho, hb⟩
        exact ⟨_, rfl, hb, o, c, rfl, ho.at⟩
       ·skip
        have eg : r.eval (.tmp 137) = .bool false := hn 31 (by simp) ⟨_, rfl, ⟨31, .guard⟩, by simp, rfl, rfl⟩
        have e7 : r.eval (.tmp 7) = .pointer (some ⟨R0.g, 0, none⟩) := (hag.out 7 (by simp)).trans rfl
        exact leaves_val_g rfl rfl rfl rfl rfl (by rw [hag.size]; show 137 < 212; decide) eg (v := .pointer (some ⟨R0.g, 0, none⟩)) (by generalize r.eval = ρ at e7 ⊢; go_simp) (Below.refl _ _) rfl
       ·skip
        have eg : r.eval (.tmp 137) = .bool false := hn 31 (by simp) ⟨_, rfl, ⟨31, .guard⟩, by simp, rfl, rfl⟩
        have e140 : r.eval (.tmp 140) = .pointer (some ⟨R0.g, 0, none⟩) := hn 34 (by simp) ⟨_, rfl, ⟨34, .data⟩, by simp, rfl, rfl⟩
        exact leaves_val_g rfl rfl rfl rfl rfl (by rw [hag.size]; show 137 < 212; decide) eg (v := .pointer (some ⟨R0.g, 0, none⟩)) (by generalize r.eval = ρ at e140 ⊢; go_simp) (Below.refl _ _) rfl
       ·skip
        have eg : r.eval (.tmp 137) = .bool false := hn 31 (by simp) ⟨_, rfl, ⟨31, .guard⟩, by simp, rfl, rfl⟩
        have e141 : r.eval (.tmp 141) = .pointer (some ⟨R0.g, 0, none⟩) := hn 35 (by simp) ⟨_, rfl, ⟨35, .data⟩, by simp, rfl, rfl⟩
        exact leaves_val_g rfl rfl rfl rfl rfl (by rw [hag.size]; show 137 < 212; decide) eg (v := .pointer (some ⟨R0.g, 3, none⟩)) (by generalize r.eval = ρ at e141 ⊢; go_simp) (Below.refl _ _) rfl
       ·skip
        have eg : r.eval (.tmp 137) = .bool false := hn 31 (by simp) ⟨_, rfl, ⟨31, .guard⟩, by simp, rfl, rfl⟩
        have e142 : r.eval (.tmp 142) = .pointer (some ⟨R0.g, 3, none⟩) := hn 36 (by simp) ⟨_, rfl, ⟨36, .data⟩, by simp, rfl, rfl⟩
        have c3 : w'.cell? ⟨R0.g, 3, none⟩ = some (.pointer (some ⟨R'.gt, 0, none⟩)) := (hbel.cell (p := ⟨R0.g, 3, none⟩) hgr).trans r3
        exact leaves_val_g rfl rfl rfl rfl rfl (by rw [hag.size]; show 137 < 212; decide) eg (v := .pointer (some ⟨R'.gt, 0, none⟩)) (by generalize r.eval = ρ at e142 ⊢; go_simp) (Below.refl _ _) rfl
       ·skip
        have eg : r.eval (.tmp 137) = .bool false := hn 31 (by simp) ⟨_, rfl, ⟨31, .guard⟩, by simp, rfl, rfl⟩
        have e143 : r.eval (.tmp 143) = .pointer (some ⟨R'.gt, 0, none⟩) := hn 37 (by simp) ⟨_, rfl, ⟨37, .data⟩, by simp, rfl, rfl⟩
        have e143 : r.eval (.tmp 143) = .pointer (some ⟨R'.gt, 0, none⟩) := hn 37 (by simp) ⟨_, rfl, ⟨37, .data⟩, by simp, rfl, rfl⟩
        refine leaves_call_g (f := 35) (args := #[.pointer (some ⟨R'.gt, 0, none⟩)]) rfl rfl rfl rfl rfl (by rw [hag.size]; show 137 < 212; decide) eg (by have ef : r.eval (.func 35) = .func (.func 35) #[] #[] := rfl; generalize r.eval = ρ at ef e143 ⊢; go_simp) (HRO.out w' hbel) ?_
        rintro e2 w2 ⟨o, c, rfl, ho, hb⟩
        exact ⟨_, rfl, hb, o, c, rfl, ho.at⟩
       ·skip
        have eg : r.eval (.tmp 137) = .bool false := hn 31 (by simp) ⟨_, rfl, ⟨31, .guard⟩, by simp, rfl, rfl⟩
        obtain ⟨o1, c1, e139, h1⟩ : ∃ o c, r.eval (.tmp 139) = .slice o ot.length c ∧ SlAt icells w' (.slice o ot.length c) ot := hn 33 (by simp) ⟨_, rfl, ⟨33, .data⟩, by simp, rfl, rfl⟩
        obtain ⟨o2, c2, e144, h2⟩ : ∃ o c, r.eval (.tmp 144) = .slice o ot.length c ∧ SlAt icells w' (.slice o ot.length c) ot := hn 38 (by simp) ⟨_, rfl, ⟨38, .data⟩, by simp, rfl, rfl⟩
        refine leaves_call_g (f := 23) (args := #[.slice o1 ot.length c1, .slice o2 ot.length c2]) rfl rfl rfl rfl rfl (by rw [hag.size]; show 137 < 212; decide) eg (by have ef : r.eval (.func 23) = .func (.func 23) #[] #[] := rfl; generalize r.eval = ρ at ef e139 e144 ⊢; go_simp) (HIN2.out o1 o2 c1 c2 w' h1 h2) ?_
        rintro e2 w2 ⟨rfl, q, rfl⟩
        exact ⟨_, rfl, below_drewN _ _, rfl⟩
       ·skip
        have eg : r.eval (.tmp 137) = .bool false := hn 31 (by simp) ⟨_, rfl, ⟨31, .guard⟩, by simp, rfl, rfl⟩
        have e145 : r.eval (.tmp 145) = .bool true := hn 39 (by simp) ⟨_, rfl, ⟨39, .data⟩, by simp, rfl, rfl⟩
        exact leaves_val_g rfl rfl rfl rfl rfl (by rw [hag.size]; show 137 < 212; decide) eg (v := .bool false) (by generalize r.eval = ρ at e145 ⊢; go_simp) (Below.refl _ _) rfl
       ·skip
        have e137 : r.eval (.tmp 137) = .bool false := hn 31 (by simp) ⟨_, rfl, ⟨31, .data⟩, by simp, rfl, rfl⟩
        have e146 : r.eval (.tmp 146) = .bool false := hn 40 (by simp) ⟨_, rfl, ⟨40, .data⟩, by simp, rfl, rfl⟩
        have ec0 : r.eval (.const (.bool true)) = .bool true := rfl
        exact leaves_val rfl rfl rfl (v := .bool false) (by generalize r.eval = ρ at e137 e146 ec0 ⊢; go_simp) (Below.refl _ _) rfl
       ·skip
        have e147 : r.eval (.tmp 147) = .bool false := hn 41 (by simp) ⟨_, rfl, ⟨41, .data⟩, by simp, rfl, rfl⟩
        exact leaves_val rfl rfl rfl (v := .bool false) (by generalize r.eval = ρ at e147 ⊢; go_simp) (Below.refl _ _) rfl
       ·skip
        have eg : r.eval (.tmp 148) = .bool false := hn 42 (by simp) ⟨_, rfl, ⟨42, .guard⟩, by simp, rfl, rfl⟩
        have e5 : r.eval (.tmp 5) = .pointer (some ⟨M0.g, 0, none⟩) := (hag.out 5 (by simp)).trans rfl
        exact leaves_val_g rfl rfl rfl rfl rfl (by rw [hag.size]; show 148 < 212; decide) eg (v := .pointer (some ⟨M0.g, 0, none⟩)) (by generalize r.eval = ρ at e5 ⊢; go_simp) (Below.refl _ _) rfl
       ·skip
        have eg : r.eval (.tmp 148) = .bool false := hn 42 (by simp) ⟨_, rfl, ⟨42, .guard⟩, by simp, rfl, rfl⟩
        have e149 : r.eval (.tmp 149) = .pointer (some ⟨M0.g, 0, none⟩) := hn 43 (by simp) ⟨_, rfl, ⟨43, .data⟩, by simp, rfl, rfl⟩
        refine leaves_call_g (f := 20) (args := #[.pointer (some ⟨M0.g, 0, none⟩)]) rfl rfl rfl rfl rfl (by rw [hag.size]; show 148 < 212; decide) eg (by have ef : r.eval (.func 20) = .func (.func 20) #[] #[] := rfl; generalize r.eval = ρ at ef e149 ⊢; go_simp) (HINC.out w' hbel) ?_
        rintro e2 w2 ⟨rfl, rfl⟩
        exact ⟨_, rfl, Below.refl _ _, rfl⟩
       ·skip
        have eg : r.eval (.tmp 148) = .bool false := hn 42 (by simp) ⟨_, rfl, ⟨42, .guard⟩, by simp, rfl, rfl⟩
        have e7 : r.eval (.tmp 7) = .pointer (some ⟨R0.g, 0, none⟩) := (hag.out 7 (by simp)).trans rfl
        exact leaves_val_g rfl rfl rfl rfl rfl (by rw [hag.size]; show 148 < 212; decide) eg (v := .pointer (some ⟨R0.g, 0, none⟩)) (by generalize r.eval = ρ at e7 ⊢; go_simp) (Below.refl _ _) rfl
       ·skip
        have eg : r.eval (.tmp 148) = .bool false := hn 42 (by simp) ⟨_, rfl, ⟨42, .guard⟩, by simp, rfl, rfl⟩
        have e151 : r.eval (.tmp 151) = .pointer (some ⟨R0.g, 0, none⟩) := hn 45 (by simp) ⟨_, rfl, ⟨45, .data⟩, by simp, rfl, rfl⟩
        exact leaves_val_g rfl rfl rfl rfl rfl (by rw [hag.size]; show 148 < 212; decide) eg (v := .pointer (some ⟨R0.g, 0, none⟩)) (by generalize r.eval = ρ at e151 ⊢; go_simp) (Below.refl _ _) rfl
       ·skip
        have eg : r.eval (.tmp 148) = .bool false := hn 42 (by simp) ⟨_, rfl, ⟨42, .guard⟩, by simp, rfl, rfl⟩
        have e152 : r.eval (.tmp 152) = .pointer (some ⟨R0.g, 0, none⟩) := hn 46 (by simp) ⟨_, rfl, ⟨46, .data⟩, by simp, rfl, rfl⟩
        exact leaves_val_g rfl rfl rfl rfl rfl (by rw [hag.size]; show 148 < 212; decide) eg (v := .pointer (some ⟨R0.g, 11, none⟩)) (by generalize r.eval = ρ at e152 ⊢; go_simp) (Below.refl _ _) rfl
       ·skip
        have eg : r.eval (.tmp 148) = .bool false := hn 42 (by simp) ⟨_, rfl, ⟨42, .guard⟩, by simp, rfl, rfl⟩
        have e153 : r.eval (.tmp 153) = .pointer (some ⟨R0.g, 11, none⟩) := hn 47 (by simp) ⟨_, rfl, ⟨47, .data⟩, by simp, rfl, rfl⟩
        have c11 : w'.cell? ⟨R0.g, 11, none⟩ = some (.int .i64 inc2) := (hbel.cell (p := ⟨R0.g, 11, none⟩) hgr).trans r11
        exact leaves_val_g rfl rfl rfl rfl rfl (by rw [hag.size]; show 148 < 212; decide) eg (v := .int .i64 inc2) (by generalize r.eval = ρ at e153 ⊢; go_simp) (Below.refl _ _) rfl
       ·skip
        have eg : r.eval (.tmp 148) = .bool false := hn 42 (by simp) ⟨_, rfl, ⟨42, .guard⟩, by simp, rfl, rfl⟩
        have e150 : r.eval (.tmp 150) = .int .i64 inc2 := hn 44 (by simp) ⟨_, rfl, ⟨44, .data⟩, by simp, rfl, rfl⟩
        have e154 : r.eval (.tmp 154) = .int .i64 inc2 := hn 48 (by simp) ⟨_, rfl, ⟨48, .data⟩, by simp, rfl, rfl⟩
        exact leaves_val_g rfl rfl rfl rfl rfl (by rw [hag.size]; show 148 < 212; decide) eg (v := .bool false) (by generalize r.eval = ρ at e150 e154 ⊢; go_simp) (Below.refl _ _) rfl
       ·skip
        have e148 : r.eval (.tmp 148) = .bool false := hn 42 (by simp) ⟨_, rfl, ⟨42, .data⟩, by simp, rfl, rfl⟩
        have e155 : r.eval (.tmp 155) = .bool false := hn 49 (by simp) ⟨_, rfl, ⟨49, .data⟩, by simp, rfl, rfl⟩
        have ec0 : r.eval (.const (.bool true)) = .bool true := rfl
        exact leaves_val rfl rfl rfl (v := .bool false) (by generalize r.eval = ρ at e148 e155 ec0 ⊢; go_simp) (Below.refl _ _) rfl
      case hend =>
       intro r w' hag hbel hall
       have e156 : r.eval (.tmp 156) = .bool false := hall 50 (by simp)
       have hfin := Ag.final _ (by show ∀ d ∈ ([106, 107, 108, 109, 110, 111, 112, 113, 114, 115, 116, 117, 118, 119, 120, 121, 122, 123, 124, 125, 126, 127, 128, 129, 130, 131, 132, 133, 134, 135, 136, 137, 138, 139, 140, 141, 142, 143, 144, 145, 146, 147, 148, 149, 150, 151, 152, 153, 154, 155, 156] : List Nat), d < 212; decide) hag
       simp only [List.map, List.foldl, e156] at hfin
       generalize r.eval (.tmp 106) = y106 at hfin
       generalize r.eval (.tmp 107) = y107 at hfin
       generalize r.eval (.tmp 108) = y108 at hfin
       generalize r.eval (.tmp 109) = y109 at hfin
       generalize r.eval (.tmp 110) = y110 at hfin
       generalize r.eval (.tmp 111) = y111 at hfin
       generalize r.eval (.tmp 112) = y112 at hfin
       generalize r.eval (.tmp 113) = y113 at hfin
       generalize r.eval (.tmp 114) = y114 at hfin
       generalize r.eval (.tmp 115) = y115 at hfin
       generalize r.eval (.tmp 116) = y116 at hfin
       generalize r.eval (.tmp 117) = y117 at hfin
       generalize r.eval (.tmp 118) = y118 at hfin
       generalize r.eval (.tmp 119) = y119 at hfin
       generalize r.eval (.tmp 120) = y120 at hfin
       generalize r.eval (.tmp 121) = y121 at hfin
       generalize r.eval (.tmp 122) = y122 at hfin
       generalize r.eval (.tmp 123) = y123 at hfin
       generalize r.eval (.tmp 124) = y124 at hfin
       generalize r.eval (.tmp 125) = y125 at hfin
       generalize r.eval (.tmp 126) = y126 at hfin
       generalize r.eval (.tmp 127) = y127 at hfin
       generalize r.eval (.tmp 128) = y128 at hfin
       generalize r.eval (.tmp 129) = y129 at hfin
       generalize r.eval (.tmp 130) = y130 at hfin
       generalize r.eval (.tmp 131) = y131 at hfin
       generalize r.eval (.tmp 132) = y132 at hfin
       generalize r.eval (.tmp 133) = y133 at hfin
       generalize r.eval (.tmp 134) = y134 at hfin
       generalize r.eval (.tmp 135) = y135 at hfin
       generalize r.eval (.tmp 136) = y136 at hfin
       generalize r.eval (.tmp 137) = y137 at hfin
       generalize r.eval (.tmp 138) = y138 at hfin
       generalize r.eval (.tmp 139) = y139 at hfin
       generalize r.eval (.tmp 140) = y140 at hfin
       generalize r.eval (.tmp 141) = y141 at hfin
       generalize r.eval (.tmp 142) = y142 at hfin
       generalize r.eval (.tmp 143) = y143 at hfin
       generalize r.eval (.tmp 144) = y144 at hfin
       generalize r.eval (.tmp 145) = y145 at hfin
       generalize r.eval (.tmp 146) = y146 at hfin
       generalize r.eval (.tmp 147) = y147 at hfin
       generalize r.eval (.tmp 148) = y148 at hfin
       generalize r.eval (.tmp 149) = y149 at hfin
       generalize r.eval (.tmp 150) = y150 at hfin
       generalize r.eval (.tmp 151) = y151 at hfin
       generalize r.eval (.tmp 152) = y152 at hfin
       generalize r.eval (.tmp 153) = y153 at hfin
       generalize r.eval (.tmp 154) = y154 at hfin
       generalize r.eval (.tmp 155) = y155 at hfin
       have HBB := Lib.hid hbel
       clear e156 hall hag hbel
       subst hfin
       simp only [Act.put, List.setIfInBounds_toArray, List.set_cons_succ, List.set_cons_zero]
       go_wp2_with fail
       go_meet
       exact ⟨rfl, HBB.out⟩
     case rest =>
      obtain ⟨rfl, HBx⟩ := hcut
      clear HALL HWD HRA HLV HRL HOT HRO HINC HW18 HIN1 HIN2 r3 r11 h8a h8l h8o
      have HTG2 := Lib.hid (HTG.out wc HBx.out)
      clear HTG
      go_wp2_with fail
      refine HTG2.out.mono ?_
      rintro e w9 ⟨rfl, hb9⟩
      have hB9 := HBx.out.trans (hb9.mono HBx.out.size)
      have r7 : w9.cell? ⟨R0.g, 7, none⟩ = some (.bool ok) := (hB9.cell (p := ⟨R0.g, 7, none⟩) hgr).trans r7
      have r8 : w9.cell? ⟨R0.g, 8, none⟩ = some (.int .i64 R'.tgt) := (hB9.cell (p := ⟨R0.g, 8, none⟩) hgr).trans r8
      have HT9 := Lib.hid (HT'.out.below hB9)
      have HM9 := Lib.hid (HMa.out.below hB9 (Nat.le_refl _))
      have HB9 := Lib.hid (HB'.out.trans (hB9.mono HB'.out.size))
      clear hb9 hB9 HT' HMa HB' HBx HTG2 hgr
      go_upto_region 27 with fail
      go_cut [186] (fun s186 wx => s186 = .bool false ∧ wx = w9)
      case first =>
       cases ok with
       | true =>
        have t2 := HT2.out rfl
        go_wp2_with fail
        go_meet
        exact ⟨rfl, rfl⟩
       | false =>
        obtain rfl := HT3.out rfl
        go_wp2_with fail
        go_meet
        exact ⟨rfl, rfl⟩
      case rest =>
       obtain ⟨rfl, rfl⟩ := hcut
       generalize wc = wa at *
       have HMK := Lib.hid (Marks.start HM9.out)
       clear r7 r8 HT2 HT3
       go_wp2_with fail
       go_loopg [17, 18, 189] ps.length (fun gk s17 s18 s189 wr => ∃ (j : Nat), s189 = .int .i64 j ∧ j ≤ ps.length ∧ ps.length - j ≤ gk ∧ Hid (Marks wa wr (.slice oq ps.length cq) ps))
       case atStart => exact ⟨0, rfl, Nat.zero_le _, Nat.le_refl _, HMK.out⟩
       case round =>
        obtain ⟨j, rfl, hj, hgk2, HMJ⟩ := hrel
        clear HMK
        by_cases hjl : j < ps.length
        ·--MARK
         as_aux_lemma =>
         have hjz : (j : Int) < (ps.length : Int) := by omega
         have hsl := HMJ.out.own.at
         obtain ⟨bq, offq, hbq⟩ := hsl.plain scells_len (by decide) (by intro e; rw [e] at hjl; exact absurd hjl (by simp))
         subst hbq
         have hmem : ps[j] ∈ ps := List.getElem_mem hjl
         have hsv := ((HM9.out.2 _ hmem).at).slice_of
         have hcl : ∀ W : World, SlAt scells W (.slice (some ⟨bq, offq, none⟩) ps.length cq) ps → W.cell? ⟨bq, offq + j * 16 + 15, none⟩ = some ps[j].1.val := fun W hW => by
          rw [show offq + j * 16 + 15 = offq + (j * 16 + 15) by omega]
          exact hW.cell scells_len (i := j) (c := 15) hjl (by decide)
         obtain ⟨ha, hn, hc, sd, hpj⟩ : ∃ ha hn hc sd, ps[j] = ((⟨ha, hn, hc⟩ : Hdr), sd) := ⟨ps[j].1.a, ps[j].1.n, ps[j].1.c, ps[j].2, rfl⟩
         rw [hpj] at hmem hsv hcl
         obtain ⟨_, _, hv, _⟩ := hsv
         simp only [Hdr.val, Value.slice.injEq] at hv
         obtain ⟨-, rfl, -⟩ := hv
         have c15 : wr.cell? ⟨bq, offq + j * 16 + 15, none⟩ = some (.slice ha sd.ms.length hc) := hcl wr hsl
         have HCL := Lib.hid hcl
         have hs8 : sd.ms.length ≤ 8 := HSML.out _ hmem
         have HMEM := Lib.hid hmem
         clear hsl hmem hcl hpj
         go_wp2_with fail
         go_loopg [18, 198] sd.ms.length (fun gk s18 s198 wr => ∃ (k : Nat), s198 = .int .i64 k ∧ k ≤ sd.ms.length ∧ sd.ms.length - k ≤ gk ∧ Hid (Marks wa wr (.slice (some ⟨bq, offq, none⟩) ps.length cq) ps))
         case atStart => exact ⟨0, rfl, Nat.zero_le _, Nat.le_refl _, HMJ.out⟩
         case round =>
          obtain ⟨k, rfl, hk, hgk3, HMI⟩ := hrel
          by_cases hkl : k < sd.ms.length
          ·have hkz : (k : Int) < (sd.ms.length : Int) := by omega
           obtain ⟨b, c', cur, hv, hh, hsz⟩ := HMI.out.rows _ HMEM.out (Nat.lt_of_le_of_lt (Nat.zero_le _) hkl)
           have hv2 := hv
           simp only [Hdr.val, Value.slice.injEq] at hv
           obtain ⟨rfl, -, rfl⟩ := hv
           have c15 : wr.cell? ⟨bq, offq + j * 16 + 15, none⟩ = some (.slice (some ⟨b, 0, none⟩) sd.ms.length hc) := HCL.out wr HMI.out.own.at
           have hsz2 : sd.ms.length * 3 ≤ cur.size := hsz
           have hlt1 : k * 3 + 1 < cur.size := by omega
           have x1 : wr.cell? ⟨b, k * 3 + 1, none⟩ = some cur[k * 3 + 1] := (cell_of_row wr b (k * 3 + 1) _ _ _ hh).trans (Array.getElem?_eq_getElem hlt1)
           have z1 : wr.frozen? ⟨b, k * 3 + 1, none⟩ = false := by unfold World.frozen?; rw [hh]; simp
           have HMS2 := Lib.hid (HMI.out.set HMEM.out (Nat.lt_of_le_of_lt (Nat.zero_le _) hkl) hv2 (k * 3 + 1) (.int .i64 9))
           generalize cur[k * 3 + 1] = x at *
           clear hv2 hh hsz hsz2 hlt1 HMI
           go_wp2_with fail
           go_roundg (sd.ms.length - (k + 1))
           case measure => omega
           case rel => exact ⟨k + 1, by go_num, by omega, Nat.le_refl _, HMS2.out⟩
          ·have hkz : ¬ (k : Int) < (sd.ms.length : Int) := by omega
           go_wp2_with fail
           go_roundg (ps.length - (j + 1))
           case measure => omega
           case rel => exact ⟨j + 1, by go_num, by omega, Nat.le_refl _, HMI.out⟩
        ·--NEXT
         as_aux_lemma =>
         have hjz : ¬ (j : Int) < (ps.length : Int) := by omega
         have HT8 := Lib.hid (HT9.out.kept HMJ.out.touch HA1.out HA2.out)
         have HB8 := Lib.hid (HB9.out.trans (HMJ.out.below HM9.out HB9.out.size))
         clear HT9 HB9 HMJ HM9 HA1 HA2
         go_wp2_with fail
         go_roundg (l.length - (i + 1))
         case measure => omega
         case rel => exact ⟨i + 1, lf', d', M', R', by go_num, by omega, Nat.le_refl _, hgM', hgR', HPD.out, HT8.out, HB8.out⟩
   ·--END
    as_aux_lemma =>
    have hltz : ¬ (i : Int) < (l.length : Int) := by omega
    go_wp2_with fail
    go_ret
    exact ⟨rfl, HB1.out.trans (HB.out.mono HB1.out.size)⟩
 ·--BAD
  as_aux_lemma =>
  have HMB := Lib.hid (made_bad self inc c seed w3 hq)
  have hnw := fun W => rnew20_bad self inc c seed W hq
  have HNW := Lib.hid hnw
  clear hq hnw
  go_wp2_with fail
  refine HMB.out.mono ?_
  rintro e w4 ⟨rfl, hb4⟩
  have hBB4 := HB3.out.trans (hb4.mono HB3.out.size)
  have hr4 := (hBB4.block _ hml).trans HR1.out
  have cc := fun k => cell_of_row w4 w.heap.size k _ _ _ hr4
  have n0 : w4.cell? ⟨w.heap.size, 0, none⟩ = some (.int .i64 self) := cc 0
  have n1 : w4.cell? ⟨w.heap.size, 1, none⟩ = some (.int .i64 inc) := cc 1
  have n2 : w4.cell? ⟨w.heap.size, 2, none⟩ = some (.int .i64 c.tout) := cc 2
  have n3 : w4.cell? ⟨w.heap.size, 3, none⟩ = some (.int .i64 c.ind) := cc 3
  have n4 : w4.cell? ⟨w.heap.size, 4, none⟩ = some (.int .i64 c.gr) := cc 4
  have n5 : w4.cell? ⟨w.heap.size, 5, none⟩ = some (.int .u64 seed) := cc 5
  have HB4 := Lib.hid hBB4
  have HNW4 := Lib.hid (HNW.out w4)
  clear hb4 hBB4 hr4 cc HMB HB3 HNW
  go_wp2_with fail
  refine HNW4.out.mono ?_
  rintro e w5 ⟨rfl, hb5⟩
  have hBB5 := HB4.out.trans (hb5.mono HB4.out.size)
  have HB5 := Lib.hid hBB5
  clear hb5 hBB5 HB4 HNW4 n0 n1 n2 n3 n4 n5
  go_wp2_with fail
  go_cut [55] (fun s55 wx => s55 = .bool true ∧ Hid (∃ n, wx = w5.drewN n))
  case first =>
   go_big_quiet (fail)
   go_wp2_with fail
   go_meet
   exact ⟨rfl, ⟨nq, rfl⟩⟩
  case rest =>
   obtain ⟨rfl, HN⟩ := hcut
   obtain ⟨n, hn⟩ := HN.out
   have HB6 : Hid (Below w1.heap.size w1 wc) := by rw [hn]; exact HB5.out.trans ((below_drewN w5 n).mono HB5.out.size)
   clear hn HN HB5
   go_wp2_with fail
   go_ret
   exact ⟨rfl, HB1.out.trans (HB6.out.mono HB1.out.size)⟩
end Go.Proofs.YtejihgfigclppaaGreat
