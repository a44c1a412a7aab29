/-
  A message that came: what the reference's detector makes of it.
-/
import Derived.Test.YtejihgfigclppaaGreatRefOnB
import Derived.Test.YtejihgfigclppaaGreatRefOnC
namespace Go.Proofs.YtejihgfigclppaaGreat
open Go.Shelf Go.RowKit Go.Lib Go.Sort
set_option linter.unusedVariables false
set_option linter.unusedSimpArgs false
set_option maxRecDepth 100000 in
set_option maxHeartbeats 64000000 in
theorem ron_any (R : RM) (d : Det) (hok : DetOk d) (hn : d.num < 1000000) (m : Msg) (hs : m.small) (w : World) (hm : MsgIn w m) (hA : m.ms = [] ∨ ∀ b, m.hs.val.ownBlock = some b → b ∉ R.own) (h : RAt w R d) :
  Calls Tryz.prog 29 #[.pointer (some ⟨R.g, 0, none⟩), .agg #[.int .i64 m.kind, .int .i64 m.frm, .int .i64 m.to_, .int .i64 m.seq, .int .i64 m.node, .int .i64 (m.u 0), .int .i64 (m.u 1), .int .i64 (m.u 2), .int .i64 (m.u 3), .int .i64 (m.u 4), .int .i64 (m.u 5), .int .i64 (m.u 6), .int .i64 (m.u 7), m.hm.val, m.he.val, m.hs.val]] w fun e w' =>
   (badOn d m = true → e = .returned (.tuple #[.slice none 0 0, .int .i64 2]) ∧ Below w.heap.size w w') ∧
   (badOn d m = false → d.left = true → e = .returned (.tuple #[.slice none 0 0, .int .i64 16]) ∧ Below w.heap.size w w') ∧
   (badOn d m = false → d.left = false → ∃ v, e = .returned (.tuple #[v, .int .i64 0]) ∧ RStepped R (d.on m.got).1 (d.on m.got).2 w v w') := by
 have hp : Tryz.prog.follows .mixedOrders = true := by kernel_rfl
 obtain ⟨w1, hw1⟩ : ∃ w1, w.alloc (.cells #[.int .i64 m.kind, .int .i64 m.frm, .int .i64 m.to_, .int .i64 m.seq, .int .i64 m.node, .int .i64 (m.u 0), .int .i64 (m.u 1), .int .i64 (m.u 2), .int .i64 (m.u 3), .int .i64 (m.u 4), .int .i64 (m.u 5), .int .i64 (m.u 6), .int .i64 (m.u 7), m.hm.val, m.he.val, m.hs.val] 42) = w1 := ⟨_, rfl⟩
 have hb1 : Below w.heap.size w w1 := by rw [← hw1]; exact (Below.refl _ _).alloc (Nat.le_refl _) _
 have hr1 : w1.heap[w.heap.size]? = some (.cells #[.int .i64 m.kind, .int .i64 m.frm, .int .i64 m.to_, .int .i64 m.seq, .int .i64 m.node, .int .i64 (m.u 0), .int .i64 (m.u 1), .int .i64 (m.u 2), .int .i64 (m.u 3), .int .i64 (m.u 4), .int .i64 (m.u 5), .int .i64 (m.u 6), .int .i64 (m.u 7), m.hm.val, m.he.val, m.hs.val] 42) := by rw [← hw1]; exact heap_alloc_new w _
 have hsz1 : w1.heap.size = w.heap.size + 1 := by rw [← hw1]; exact World.size_alloc _ _
 have hD1 := h.below hb1
 have hm1 := hm.below hb1 (Nat.le_refl _)
 have cc := fun k => cell_of_row w1 w.heap.size k _ _ _ hr1
 have m2 : w1.cell? ⟨w.heap.size, 2, none⟩ = some (.int .i64 m.to_) := cc 2
 have k3 : w1.cell? ⟨R.g, 3, none⟩ = some (.pointer (some ⟨R.gt, 0, none⟩)) := hD1.cell 3
 have k0 : w1.cell? ⟨R.gt, 0, none⟩ = some (.int .i64 d.self) := hD1.tab.self
 have hml : w.heap.size < w1.heap.size := by omega
 have hgl : R.g < w1.heap.size := hD1.lt
 have hgtl : R.gt < w1.heap.size := hD1.tab.lt
 have hrt := fun (W : World) (hW : Below w1.heap.size w1 W) => right17_any m hs W (hm1.below hW (Nat.le_refl _))
 obtain ⟨rb, hrb⟩ : ∃ rb, m.rightB = rb := ⟨_, rfl⟩
 rw [hrb] at hrt
 have HRB := Lib.hid hrb
 have HRT := Lib.hid hrt
 have HW1 := Lib.hid hw1
 have HB1 := Lib.hid hb1
 have HR1 := Lib.hid hr1
 have HD1 := Lib.hid hD1
 have HD := Lib.hid h
 have HM1 := Lib.hid hm1
 have HOK := Lib.hid hok
 have HS := Lib.hid hs
 have HA := Lib.hid hA
 have HN := Lib.hid hn
 clear cc hrb hrt hw1 hb1 hr1 hD1 h hm1 hm hok hs hA hn
 go_enter Tryz.func29, Tryz.ntmps29
 go_wp2_with fail
 rw [HW1.out]
 obtain ⟨bad, hbad⟩ : ∃ bad, badOn d m = bad := ⟨_, rfl⟩
 have HBAD := Lib.hid hbad
 clear hbad
 go_cut [24] (fun s24 wx => s24 = .bool bad ∧ Hid (Below w1.heap.size w1 wx))
 case first =>
  cases rb with
  | false =>
   have eb : bad = true := by rw [← HBAD.out]; unfold badOn; rw [HRB.out]; rfl
   refine tell_region (by kernel_rfl) [(10, fun v _ => v = .agg #[.int .i64 m.kind, .int .i64 m.frm, .int .i64 m.to_, .int .i64 m.seq, .int .i64 m.node, .int .i64 (m.u 0), .int .i64 (m.u 1), .int .i64 (m.u 2), .int .i64 (m.u 3), .int .i64 (m.u 4), .int .i64 (m.u 5), .int .i64 (m.u 6), .int .i64 (m.u 7), m.hm.val, m.he.val, m.hs.val]), (11, fun v _ => v = .bool false), (12, fun v _ => v = .bool true), (13, fun v _ => v = .bool true), (14, fun _ _ => True), (15, fun _ _ => True), (16, fun _ _ => True), (17, fun _ _ => True), (18, fun _ _ => True), (19, fun _ _ => True), (20, fun _ _ => True), (21, fun _ _ => True), (22, fun _ _ => True), (23, fun _ _ => True), (24, fun v _ => v = .bool bad)] rfl (by show ([10, 11, 12, 13, 14, 15, 16, 17, 18, 19, 20, 21, 22, 23, 24] : List Nat).Nodup; decide) (by show ∀ d ∈ ([10, 11, 12, 13, 14, 15, 16, 17, 18, 19, 20, 21, 22, 23, 24] : List Nat), d < 216; decide) (by kernel_rfl) ?hmono ?hstep ?hend
   case hmono =>
    intro p hp
    simp only [List.mem_cons, List.not_mem_nil, or_false] at hp
    rcases hp with rfl | rfl | rfl | rfl | rfl | rfl | rfl | rfl | rfl | rfl | rfl | rfl | rfl | rfl | rfl
    ·exact lasts_pure _
    ·exact lasts_pure _
    ·exact lasts_pure _
    ·exact lasts_pure _
    ·exact lasts_pure _
    ·exact lasts_pure _
    ·exact lasts_pure _
    ·exact lasts_pure _
    ·exact lasts_pure _
    ·exact lasts_pure _
    ·exact lasts_pure _
    ·exact lasts_pure _
    ·exact lasts_pure _
    ·exact lasts_pure _
    ·exact lasts_pure _
   case hstep =>
    intro i hi r w' hag hbel hn
    have hi2 : i < 15 := hi
    rcases (show i = 0 ∨ i = 1 ∨ i = 2 ∨ i = 3 ∨ i = 4 ∨ i = 5 ∨ i = 6 ∨ i = 7 ∨ i = 8 ∨ i = 9 ∨ i = 10 ∨ i = 11 ∨ i = 12 ∨ i = 13 ∨ i = 14 by omega) with rfl | rfl | rfl | rfl | rfl | rfl | rfl | rfl | rfl | rfl | rfl | rfl | rfl | rfl | rfl
    ·skip
     have e3 : r.eval (.tmp 3) = .pointer (some ⟨w.heap.size, 0, none⟩) := (hag.out 3 (by simp)).trans rfl
     exact leaves_loadAgg rfl rfl rfl 42 (.tmp 3) rfl 16 (by kernel_rfl) (by kernel_rfl) ⟨w.heap.size, 0, none⟩ e3 _ (load_whole ((hbel.block w.heap.size hml).trans HR1.out) rfl) rfl
    ·skip
     have e10 : r.eval (.tmp 10) = .agg #[.int .i64 m.kind, .int .i64 m.frm, .int .i64 m.to_, .int .i64 m.seq, .int .i64 m.node, .int .i64 (m.u 0), .int .i64 (m.u 1), .int .i64 (m.u 2), .int .i64 (m.u 3), .int .i64 (m.u 4), .int .i64 (m.u 5), .int .i64 (m.u 6), .int .i64 (m.u 7), m.hm.val, m.he.val, m.hs.val] := hn 0 (by simp) ⟨_, rfl, ⟨0, .data⟩, by simp, rfl, rfl⟩
     refine leaves_call (f := 22) (args := #[.agg #[.int .i64 m.kind, .int .i64 m.frm, .int .i64 m.to_, .int .i64 m.seq, .int .i64 m.node, .int .i64 (m.u 0), .int .i64 (m.u 1), .int .i64 (m.u 2), .int .i64 (m.u 3), .int .i64 (m.u 4), .int .i64 (m.u 5), .int .i64 (m.u 6), .int .i64 (m.u 7), m.hm.val, m.he.val, m.hs.val]]) rfl rfl rfl (by have ef : r.eval (.func 22) = .func (.func 22) #[] #[] := rfl; generalize r.eval = ρ at ef e10 ⊢; go_simp) (HRT.out w' hbel) ?_
     rintro e2 w2 ⟨rfl, hb⟩
     exact ⟨_, rfl, hb, rfl⟩
    ·skip
     have e11 : r.eval (.tmp 11) = .bool false := hn 1 (by simp) ⟨_, rfl, ⟨1, .data⟩, by simp, rfl, rfl⟩
     exact leaves_val rfl rfl rfl (v := .bool true) (by generalize r.eval = ρ at e11 ⊢; go_simp) (Below.refl _ _) rfl
    ·skip
     have e12 : r.eval (.tmp 12) = .bool true := hn 2 (by simp) ⟨_, rfl, ⟨2, .data⟩, by simp, rfl, rfl⟩
     exact leaves_val rfl rfl rfl (v := .bool true) (by generalize r.eval = ρ at e12 ⊢; go_simp) (Below.refl _ _) rfl
    ·skip
     have eg : r.eval (.tmp 13) = .bool true := hn 3 (by simp) ⟨_, rfl, ⟨3, .guard⟩, by simp, rfl, rfl⟩
     exact leaves_no_g rfl rfl rfl rfl rfl (by rw [hag.size]; show 13 < 216; decide) eg fun _ => trivial
    ·skip
     have eg : r.eval (.tmp 13) = .bool true := hn 3 (by simp) ⟨_, rfl, ⟨3, .guard⟩, by simp, rfl, rfl⟩
     exact leaves_no_g rfl rfl rfl rfl rfl (by rw [hag.size]; show 13 < 216; decide) eg fun _ => trivial
    ·skip
     have eg : r.eval (.tmp 13) = .bool true := hn 3 (by simp) ⟨_, rfl, ⟨3, .guard⟩, by simp, rfl, rfl⟩
     exact leaves_no_g rfl rfl rfl rfl rfl (by rw [hag.size]; show 13 < 216; decide) eg fun _ => trivial
    ·skip
     have eg : r.eval (.tmp 13) = .bool true := hn 3 (by simp) ⟨_, rfl, ⟨3, .guard⟩, by simp, rfl, rfl⟩
     exact leaves_no_g rfl rfl rfl rfl rfl (by rw [hag.size]; show 13 < 216; decide) eg fun _ => trivial
    ·skip
     have eg : r.eval (.tmp 13) = .bool true := hn 3 (by simp) ⟨_, rfl, ⟨3, .guard⟩, by simp, rfl, rfl⟩
     exact leaves_no_g rfl rfl rfl rfl rfl (by rw [hag.size]; show 13 < 216; decide) eg fun _ => trivial
    ·skip
     have eg : r.eval (.tmp 13) = .bool true := hn 3 (by simp) ⟨_, rfl, ⟨3, .guard⟩, by simp, rfl, rfl⟩
     exact leaves_no_g rfl rfl rfl rfl rfl (by rw [hag.size]; show 13 < 216; decide) eg fun _ => trivial
    ·skip
     have eg : r.eval (.tmp 13) = .bool true := hn 3 (by simp) ⟨_, rfl, ⟨3, .guard⟩, by simp, rfl, rfl⟩
     exact leaves_no_g rfl rfl rfl rfl rfl (by rw [hag.size]; show 13 < 216; decide) eg fun _ => trivial
    ·skip
     have eg : r.eval (.tmp 13) = .bool true := hn 3 (by simp) ⟨_, rfl, ⟨3, .guard⟩, by simp, rfl, rfl⟩
     exact leaves_no_g rfl rfl rfl rfl rfl (by rw [hag.size]; show 13 < 216; decide) eg fun _ => trivial
    ·skip
     have eg : r.eval (.tmp 13) = .bool true := hn 3 (by simp) ⟨_, rfl, ⟨3, .guard⟩, by simp, rfl, rfl⟩
     exact leaves_no_g rfl rfl rfl rfl rfl (by rw [hag.size]; show 13 < 216; decide) eg fun _ => trivial
    ·skip
     have eg : r.eval (.tmp 13) = .bool true := hn 3 (by simp) ⟨_, rfl, ⟨3, .guard⟩, by simp, rfl, rfl⟩
     exact leaves_no_g rfl rfl rfl rfl rfl (by rw [hag.size]; show 13 < 216; decide) eg fun _ => trivial
    ·skip
     have e13 : r.eval (.tmp 13) = .bool true := hn 3 (by simp) ⟨_, rfl, ⟨3, .data⟩, by simp, rfl, rfl⟩
     have ec0 : r.eval (.const (.bool true)) = .bool true := rfl
     exact leaves_val rfl rfl rfl (v := .bool bad) (by generalize r.eval = ρ at e13 ec0 ⊢; go_simp) (Below.refl _ _) rfl
   case hend =>
    intro r w' hag hbel hall
    have e24 : r.eval (.tmp 24) = .bool bad := hall 14 (by simp)
    have hfin := Ag.final _ (by show ∀ d ∈ ([10, 11, 12, 13, 14, 15, 16, 17, 18, 19, 20, 21, 22, 23, 24] : List Nat), d < 216; decide) hag
    simp only [List.map, List.foldl, e24] at hfin
    generalize r.eval (.tmp 10) = y10 at hfin
    generalize r.eval (.tmp 11) = y11 at hfin
    generalize r.eval (.tmp 12) = y12 at hfin
    generalize r.eval (.tmp 13) = y13 at hfin
    generalize r.eval (.tmp 14) = y14 at hfin
    generalize r.eval (.tmp 15) = y15 at hfin
    generalize r.eval (.tmp 16) = y16 at hfin
    generalize r.eval (.tmp 17) = y17 at hfin
    generalize r.eval (.tmp 18) = y18 at hfin
    generalize r.eval (.tmp 19) = y19 at hfin
    generalize r.eval (.tmp 20) = y20 at hfin
    generalize r.eval (.tmp 21) = y21 at hfin
    generalize r.eval (.tmp 22) = y22 at hfin
    generalize r.eval (.tmp 23) = y23 at hfin
    have HBB := Lib.hid hbel
    clear e24 hall hag hbel
    subst hfin
    simp only [Act.put, List.setIfInBounds_toArray, List.set_cons_succ, List.set_cons_zero]
    go_wp2_with fail
    go_meet
    exact ⟨rfl, HBB.out⟩
  | true =>
   have hne : (m.to_ != d.self) = bad := by rw [← HBAD.out]; unfold badOn; rw [HRB.out, Bool.true_and, Bool.eq_iff_iff]; simp
   refine tell_region (by kernel_rfl) [(10, fun v _ => v = .agg #[.int .i64 m.kind, .int .i64 m.frm, .int .i64 m.to_, .int .i64 m.seq, .int .i64 m.node, .int .i64 (m.u 0), .int .i64 (m.u 1), .int .i64 (m.u 2), .int .i64 (m.u 3), .int .i64 (m.u 4), .int .i64 (m.u 5), .int .i64 (m.u 6), .int .i64 (m.u 7), m.hm.val, m.he.val, m.hs.val]), (11, fun v _ => v = .bool true), (12, fun v _ => v = .bool false), (13, fun v _ => v = .bool false), (14, fun v _ => v = .pointer (some ⟨w.heap.size, 2, none⟩)), (15, fun v _ => v = .int .i64 m.to_), (16, fun v _ => v = .pointer (some ⟨R.g, 0, none⟩)), (17, fun v _ => v = .pointer (some ⟨R.g, 0, none⟩)), (18, fun v _ => v = .pointer (some ⟨R.g, 3, none⟩)), (19, fun v _ => v = .pointer (some ⟨R.gt, 0, none⟩)), (20, fun v _ => v = .pointer (some ⟨R.gt, 0, none⟩)), (21, fun v _ => v = .pointer (some ⟨R.gt, 0, none⟩)), (22, fun v _ => v = .int .i64 d.self), (23, fun v _ => v = .bool bad), (24, fun v _ => v = .bool bad)] rfl (by show ([10, 11, 12, 13, 14, 15, 16, 17, 18, 19, 20, 21, 22, 23, 24] : List Nat).Nodup; decide) (by show ∀ d ∈ ([10, 11, 12, 13, 14, 15, 16, 17, 18, 19, 20, 21, 22, 23, 24] : List Nat), d < 216; decide) (by kernel_rfl) ?hmono ?hstep ?hend
   case hmono =>
    intro p hp
    simp only [List.mem_cons, List.not_mem_nil, or_false] at hp
    rcases hp with rfl | rfl | rfl | rfl | rfl | rfl | rfl | rfl | rfl | rfl | rfl | rfl | rfl | rfl | rfl
    ·exact lasts_pure _
    ·exact lasts_pure _
    ·exact lasts_pure _
    ·exact lasts_pure _
    ·exact lasts_pure _
    ·exact lasts_pure _
    ·exact lasts_pure _
    ·exact lasts_pure _
    ·exact lasts_pure _
    ·exact lasts_pure _
    ·exact lasts_pure _
    ·exact lasts_pure _
    ·exact lasts_pure _
    ·exact lasts_pure _
    ·exact lasts_pure _
   case hstep =>
    intro i hi r w' hag hbel hn
    have hi2 : i < 15 := hi
    rcases (show i = 0 ∨ i = 1 ∨ i = 2 ∨ i = 3 ∨ i = 4 ∨ i = 5 ∨ i = 6 ∨ i = 7 ∨ i = 8 ∨ i = 9 ∨ i = 10 ∨ i = 11 ∨ i = 12 ∨ i = 13 ∨ i = 14 by omega) with rfl | rfl | rfl | rfl | rfl | rfl | rfl | rfl | rfl | rfl | rfl | rfl | rfl | rfl | rfl
    ·skip
     have e3 : r.eval (.tmp 3) = .pointer (some ⟨w.heap.size, 0, none⟩) := (hag.out 3 (by simp)).trans rfl
     exact leaves_loadAgg rfl rfl rfl 42 (.tmp 3) rfl 16 (by kernel_rfl) (by kernel_rfl) ⟨w.heap.size, 0, none⟩ e3 _ (load_whole ((hbel.block w.heap.size hml).trans HR1.out) rfl) rfl
    ·skip
     have e10 : r.eval (.tmp 10) = .agg #[.int .i64 m.kind, .int .i64 m.frm, .int .i64 m.to_, .int .i64 m.seq, .int .i64 m.node, .int .i64 (m.u 0), .int .i64 (m.u 1), .int .i64 (m.u 2), .int .i64 (m.u 3), .int .i64 (m.u 4), .int .i64 (m.u 5), .int .i64 (m.u 6), .int .i64 (m.u 7), m.hm.val, m.he.val, m.hs.val] := hn 0 (by simp) ⟨_, rfl, ⟨0, .data⟩, by simp, rfl, rfl⟩
     refine leaves_call (f := 22) (args := #[.agg #[.int .i64 m.kind, .int .i64 m.frm, .int .i64 m.to_, .int .i64 m.seq, .int .i64 m.node, .int .i64 (m.u 0), .int .i64 (m.u 1), .int .i64 (m.u 2), .int .i64 (m.u 3), .int .i64 (m.u 4), .int .i64 (m.u 5), .int .i64 (m.u 6), .int .i64 (m.u 7), m.hm.val, m.he.val, m.hs.val]]) rfl rfl rfl (by have ef : r.eval (.func 22) = .func (.func 22) #[] #[] := rfl; generalize r.eval = ρ at ef e10 ⊢; go_simp) (HRT.out w' hbel) ?_
     rintro e2 w2 ⟨rfl, hb⟩
     exact ⟨_, rfl, hb, rfl⟩
    ·skip
     have e11 : r.eval (.tmp 11) = .bool true := hn 1 (by simp) ⟨_, rfl, ⟨1, .data⟩, by simp, rfl, rfl⟩
     exact leaves_val rfl rfl rfl (v := .bool false) (by generalize r.eval = ρ at e11 ⊢; go_simp) (Below.refl _ _) rfl
    ·skip
     have e12 : r.eval (.tmp 12) = .bool false := hn 2 (by simp) ⟨_, rfl, ⟨2, .data⟩, by simp, rfl, rfl⟩
     exact leaves_val rfl rfl rfl (v := .bool false) (by generalize r.eval = ρ at e12 ⊢; go_simp) (Below.refl _ _) rfl
    ·skip
     have eg : r.eval (.tmp 13) = .bool false := hn 3 (by simp) ⟨_, rfl, ⟨3, .guard⟩, by simp, rfl, rfl⟩
     have e3 : r.eval (.tmp 3) = .pointer (some ⟨w.heap.size, 0, none⟩) := (hag.out 3 (by simp)).trans rfl
     exact leaves_val_g rfl rfl rfl rfl rfl (by rw [hag.size]; show 13 < 216; decide) eg (v := .pointer (some ⟨w.heap.size, 2, none⟩)) (by generalize r.eval = ρ at e3 ⊢; go_simp) (Below.refl _ _) rfl
    ·skip
     have eg : r.eval (.tmp 13) = .bool false := hn 3 (by simp) ⟨_, rfl, ⟨3, .guard⟩, by simp, rfl, rfl⟩
     have e14 : r.eval (.tmp 14) = .pointer (some ⟨w.heap.size, 2, none⟩) := hn 4 (by simp) ⟨_, rfl, ⟨4, .data⟩, by simp, rfl, rfl⟩
     have c2 : w'.cell? ⟨w.heap.size, 2, none⟩ = some (.int .i64 m.to_) := (hbel.cell (p := ⟨w.heap.size, 2, none⟩) hml).trans m2
     exact leaves_val_g rfl rfl rfl rfl rfl (by rw [hag.size]; show 13 < 216; decide) eg (v := .int .i64 m.to_) (by generalize r.eval = ρ at e14 ⊢; go_simp) (Below.refl _ _) rfl
    ·skip
     have eg : r.eval (.tmp 13) = .bool false := hn 3 (by simp) ⟨_, rfl, ⟨3, .guard⟩, by simp, rfl, rfl⟩
     have e0 : r.eval (.tmp 0) = .pointer (some ⟨R.g, 0, none⟩) := (hag.out 0 (by simp)).trans rfl
     exact leaves_val_g rfl rfl rfl rfl rfl (by rw [hag.size]; show 13 < 216; decide) eg (v := .pointer (some ⟨R.g, 0, none⟩)) (by generalize r.eval = ρ at e0 ⊢; go_simp) (Below.refl _ _) rfl
    ·skip
     have eg : r.eval (.tmp 13) = .bool false := hn 3 (by simp) ⟨_, rfl, ⟨3, .guard⟩, by simp, rfl, rfl⟩
     have e16 : r.eval (.tmp 16) = .pointer (some ⟨R.g, 0, none⟩) := hn 6 (by simp) ⟨_, rfl, ⟨6, .data⟩, by simp, rfl, rfl⟩
     exact leaves_val_g rfl rfl rfl rfl rfl (by rw [hag.size]; show 13 < 216; decide) eg (v := .pointer (some ⟨R.g, 0, none⟩)) (by generalize r.eval = ρ at e16 ⊢; go_simp) (Below.refl _ _) rfl
    ·skip
     have eg : r.eval (.tmp 13) = .bool false := hn 3 (by simp) ⟨_, rfl, ⟨3, .guard⟩, by simp, rfl, rfl⟩
     have e17 : r.eval (.tmp 17) = .pointer (some ⟨R.g, 0, none⟩) := hn 7 (by simp) ⟨_, rfl, ⟨7, .data⟩, by simp, rfl, rfl⟩
     exact leaves_val_g rfl rfl rfl rfl rfl (by rw [hag.size]; show 13 < 216; decide) eg (v := .pointer (some ⟨R.g, 3, none⟩)) (by generalize r.eval = ρ at e17 ⊢; go_simp) (Below.refl _ _) rfl
    ·skip
     have eg : r.eval (.tmp 13) = .bool false := hn 3 (by simp) ⟨_, rfl, ⟨3, .guard⟩, by simp, rfl, rfl⟩
     have e18 : r.eval (.tmp 18) = .pointer (some ⟨R.g, 3, none⟩) := hn 8 (by simp) ⟨_, rfl, ⟨8, .data⟩, by simp, rfl, rfl⟩
     have c3 : w'.cell? ⟨R.g, 3, none⟩ = some (.pointer (some ⟨R.gt, 0, none⟩)) := (hbel.cell (p := ⟨R.g, 3, none⟩) hgl).trans k3
     exact leaves_val_g rfl rfl rfl rfl rfl (by rw [hag.size]; show 13 < 216; decide) eg (v := .pointer (some ⟨R.gt, 0, none⟩)) (by generalize r.eval = ρ at e18 ⊢; go_simp) (Below.refl _ _) rfl
    ·skip
     have eg : r.eval (.tmp 13) = .bool false := hn 3 (by simp) ⟨_, rfl, ⟨3, .guard⟩, by simp, rfl, rfl⟩
     have e19 : r.eval (.tmp 19) = .pointer (some ⟨R.gt, 0, none⟩) := hn 9 (by simp) ⟨_, rfl, ⟨9, .data⟩, by simp, rfl, rfl⟩
     exact leaves_val_g rfl rfl rfl rfl rfl (by rw [hag.size]; show 13 < 216; decide) eg (v := .pointer (some ⟨R.gt, 0, none⟩)) (by generalize r.eval = ρ at e19 ⊢; go_simp) (Below.refl _ _) rfl
    ·skip
     have eg : r.eval (.tmp 13) = .bool false := hn 3 (by simp) ⟨_, rfl, ⟨3, .guard⟩, by simp, rfl, rfl⟩
     have e20 : r.eval (.tmp 20) = .pointer (some ⟨R.gt, 0, none⟩) := hn 10 (by simp) ⟨_, rfl, ⟨10, .data⟩, by simp, rfl, rfl⟩
     exact leaves_val_g rfl rfl rfl rfl rfl (by rw [hag.size]; show 13 < 216; decide) eg (v := .pointer (some ⟨R.gt, 0, none⟩)) (by generalize r.eval = ρ at e20 ⊢; go_simp) (Below.refl _ _) rfl
    ·skip
     have eg : r.eval (.tmp 13) = .bool false := hn 3 (by simp) ⟨_, rfl, ⟨3, .guard⟩, by simp, rfl, rfl⟩
     have e21 : r.eval (.tmp 21) = .pointer (some ⟨R.gt, 0, none⟩) := hn 11 (by simp) ⟨_, rfl, ⟨11, .data⟩, by simp, rfl, rfl⟩
     have c0 : w'.cell? ⟨R.gt, 0, none⟩ = some (.int .i64 d.self) := (hbel.cell (p := ⟨R.gt, 0, none⟩) hgtl).trans k0
     exact leaves_val_g rfl rfl rfl rfl rfl (by rw [hag.size]; show 13 < 216; decide) eg (v := .int .i64 d.self) (by generalize r.eval = ρ at e21 ⊢; go_simp) (Below.refl _ _) rfl
    ·skip
     have eg : r.eval (.tmp 13) = .bool false := hn 3 (by simp) ⟨_, rfl, ⟨3, .guard⟩, by simp, rfl, rfl⟩
     have e15 : r.eval (.tmp 15) = .int .i64 m.to_ := hn 5 (by simp) ⟨_, rfl, ⟨5, .data⟩, by simp, rfl, rfl⟩
     have e22 : r.eval (.tmp 22) = .int .i64 d.self := hn 12 (by simp) ⟨_, rfl, ⟨12, .data⟩, by simp, rfl, rfl⟩
     exact leaves_val_g rfl rfl rfl rfl rfl (by rw [hag.size]; show 13 < 216; decide) eg (v := .bool bad) (by generalize r.eval = ρ at e15 e22 ⊢; go_simp) (Below.refl _ _) rfl
    ·skip
     have e13 : r.eval (.tmp 13) = .bool false := hn 3 (by simp) ⟨_, rfl, ⟨3, .data⟩, by simp, rfl, rfl⟩
     have e23 : r.eval (.tmp 23) = .bool bad := hn 13 (by simp) ⟨_, rfl, ⟨13, .data⟩, by simp, rfl, rfl⟩
     have ec0 : r.eval (.const (.bool true)) = .bool true := rfl
     exact leaves_val rfl rfl rfl (v := .bool bad) (by generalize r.eval = ρ at e13 e23 ec0 ⊢; go_simp) (Below.refl _ _) rfl
   case hend =>
    intro r w' hag hbel hall
    have e24 : r.eval (.tmp 24) = .bool bad := hall 14 (by simp)
    have hfin := Ag.final _ (by show ∀ d ∈ ([10, 11, 12, 13, 14, 15, 16, 17, 18, 19, 20, 21, 22, 23, 24] : List Nat), d < 216; decide) hag
    simp only [List.map, List.foldl, e24] at hfin
    generalize r.eval (.tmp 10) = y10 at hfin
    generalize r.eval (.tmp 11) = y11 at hfin
    generalize r.eval (.tmp 12) = y12 at hfin
    generalize r.eval (.tmp 13) = y13 at hfin
    generalize r.eval (.tmp 14) = y14 at hfin
    generalize r.eval (.tmp 15) = y15 at hfin
    generalize r.eval (.tmp 16) = y16 at hfin
    generalize r.eval (.tmp 17) = y17 at hfin
    generalize r.eval (.tmp 18) = y18 at hfin
    generalize r.eval (.tmp 19) = y19 at hfin
    generalize r.eval (.tmp 20) = y20 at hfin
    generalize r.eval (.tmp 21) = y21 at hfin
    generalize r.eval (.tmp 22) = y22 at hfin
    generalize r.eval (.tmp 23) = y23 at hfin
    have HBB := Lib.hid hbel
    clear e24 hall hag hbel
    subst hfin
    simp only [Act.put, List.setIfInBounds_toArray, List.set_cons_succ, List.set_cons_zero]
    go_wp2_with fail
    go_meet
    exact ⟨rfl, HBB.out⟩
 case rest =>
  obtain ⟨rfl, HBW⟩ := hcut
  have hDc := HD1.out.below HBW.out
  have hMc := HM1.out.below HBW.out (Nat.le_refl _)
  have hrc := (HBW.out.block _ hml).trans HR1.out
  have hBc := HB1.out.trans (HBW.out.mono HB1.out.size)
  have k21 : wc.cell? ⟨R.g, 21, none⟩ = some (.bool d.left) := hDc.cell 21
  have hlc : w.heap.size < wc.heap.size := Nat.lt_of_lt_of_le hml HBW.out.size
  have HDc := Lib.hid hDc
  have HMc := Lib.hid hMc
  have HRc := Lib.hid hrc
  have HBc := Lib.hid hBc
  clear hDc hMc hrc hBc HD1 HM1 HR1 HB1 HBW HW1 HRT m2 k0 k3
  cases bad with
  | true =>
   as_aux_lemma =>
   have HX := Lib.hid HBAD.out
   clear HBAD k21
   go_wp2_with fail
   go_ret2
   refine ⟨fun _ => ⟨rfl, HBc.out⟩, ?_, ?_⟩
   ·intro h
    rw [HX.out] at h
    cases h
   ·intro h
    rw [HX.out] at h
    cases h
  | false =>
   cases hl : d.left with
   | true =>
    as_aux_lemma =>
    rw [hl] at k21
    have HX := Lib.hid HBAD.out
    have HL := Lib.hid hl
    clear HBAD hl
    go_wp2_with fail
    go_ret2
    refine ⟨?_, fun _ _ => ⟨rfl, HBc.out⟩, ?_⟩
    ·intro h
     rw [HX.out] at h
     cases h
    ·intro _ h
     rw [HL.out] at h
     cases h
   | false =>
    rw [hl] at k21
    have HX := Lib.hid HBAD.out
    have HL := Lib.hid hl
    clear HBAD hl
    have hms := HMc.out.ms
    obtain ⟨sa, sc, hsv, _⟩ := hms.slice_of
    have k15 : wc.cell? ⟨w.heap.size, 15, none⟩ = some (.slice sa m.ms.length sc) := by rw [← hsv]; exact cell_of_row wc _ 15 _ _ _ HRc.out
    have hsl := HS.out.ms
    rw [hsv] at hms
    have HMS := Lib.hid hms
    have hA2 := HA.out
    rw [hsv] at hA2
    have HA2 := Lib.hid hA2
    clear hms hsv HMc HA hA2
    go_wp2_with fail
    go_loopg [7, 32] m.ms.length (fun gk s7 s32 wr => ∃ (i : Nat) (f : Nat → Int), s32 = .int .i64 i ∧ i ≤ m.ms.length ∧ m.ms.length - i ≤ gk ∧ Hid (RAt wr { R with sn := f } (d.hears (m.ms.take i))) ∧ Hid (Touch (fun k => k = R.g ∨ k = R.gt) wc wr))
    case atStart => exact ⟨0, R.sn, rfl, Nat.zero_le _, Nat.le_refl _, HDc.out, Touch.refl _ _⟩
    case round =>
     obtain ⟨i, f, rfl, hi, hgk, HDr, HTr⟩ := hrel
     by_cases hlt : i < m.ms.length
     ·as_aux_lemma =>
      have hltz : (i : Int) < (m.ms.length : Int) := by omega
      have hsr := HMS.out.touch Mb.cells_len (by decide) HTr.out (HA2.out.imp id fun hA3 b hb hL => hA3 b hb (hL.elim (fun e => by rw [e]; exact R.mem_g) fun e => by rw [e]; exact R.mem_gt))
      obtain ⟨b, off, rfl⟩ := hsr.plain Mb.cells_len (by decide) (by intro e; rw [e] at hlt; exact absurd hlt (by simp))
      have c0 := hsr.cell Mb.cells_len (i := i) (c := 0) hlt (by decide)
      have c1 := hsr.cell Mb.cells_len (i := i) (c := 1) hlt (by decide)
      have c2 := hsr.cell Mb.cells_len (i := i) (c := 2) hlt (by decide)
      replace c0 : wr.cell? ⟨b, off + i * 3, none⟩ = some (.int .i64 m.ms[i].node) := c0
      replace c1 : wr.cell? ⟨b, off + i * 3 + 1, none⟩ = some (.int .i64 m.ms[i].st) := c1
      replace c2 : wr.cell? ⟨b, off + i * 3 + 2, none⟩ = some (.int .i64 m.ms[i].inc) := c2
      have hst : d.hears (m.ms.take (i + 1)) = (d.hears (m.ms.take i)).hear m.ms[i] := by
       unfold Det.hears
       rw [List.take_succ_eq_append_getElem hlt, List.foldl_append]
       rfl
      have hok2 := HOK.out.hears (m.ms.take i)
      have HST := Lib.hid hst
      generalize m.ms[i] = x at *
      have hD2 := HDr.out.below ((Below.refl wr.heap.size wr).alloc (Nat.le_refl _) (.cells #[.int .i64 x.node, .int .i64 x.st, .int .i64 x.inc] 45))
      have hhe := rdhear_any { R with sn := f } (d.hears (m.ms.take i)) hok2 x _ hD2
      have hT2 := HTr.out.trans (Touch.of_below (L := fun k => k = R.g ∨ k = R.gt) ((Below.refl wr.heap.size wr).alloc (Nat.le_refl _) (.cells #[.int .i64 x.node, .int .i64 x.st, .int .i64 x.inc] 45)) (Nat.le_refl _)) fun _ _ h => h
      have HHE := Lib.hid hhe
      have HT2 := Lib.hid hT2
      clear hst hok2 hD2 hhe hT2 hsr HDr HTr k21 k15
      go_wp2_with fail
      refine HHE.out.mono ?_
      rintro e w3 ⟨rfl, f', hD3, hT3⟩
      have HD3 : Hid (RAt w3 { R with sn := f' } (d.hears (m.ms.take (i + 1)))) := by rw [HST.out]; exact hD3
      have HT3 := Lib.hid (HT2.out.trans hT3 fun _ _ h => h)
      clear hD3 hT3 HHE HT2 c0 c1 c2
      go_wp2_with fail
      go_roundg (m.ms.length - (i + 1))
      case measure => omega
      case rel => exact ⟨i + 1, f', by go_num, by omega, Nat.le_refl _, HD3.out, HT3.out⟩
     ·have hltz : ¬ (i : Int) < (m.ms.length : Int) := by omega
      obtain rfl : i = m.ms.length := by omega
      rw [List.take_length] at HDr
      have hokh := HOK.out.hears m.ms
      have hT5 : Touch (fun k => k ∈ R.own) w wr := (Touch.of_below HBc.out (Nat.le_refl _)).trans HTr.out fun n hn hL => hL.elim (fun e => by rw [e]; exact R.mem_g) fun e => by rw [e]; exact R.mem_gt
      have hnh : (d.hears m.ms).num = d.num := (same_hears d m.ms).num
      have hr5 := (HTr.out.block w.heap.size hlc fun hL => by
       have h1 := HD.out.own_lt R.g R.mem_g
       have h2 := HD.out.own_lt R.gt R.mem_gt
       rcases hL with e | e <;> omega).trans HRc.out
      have hon : d.on m.got = doOn (d.hears m.ms).contradict m.got := on_doOn d m.got
      have hs5 : w.heap.size < wr.heap.size := Nat.lt_of_lt_of_le hlc HTr.out.size
      have HON := Lib.hid hon
      have HKH := Lib.hid hokh
      have HT5 := Lib.hid hT5
      have HR5 := Lib.hid hr5
      clear hokh hT5 hr5 hon HDc HMS HRc HBc HTr k21 k15 HA2
      generalize d.hears m.ms = d2 at *
      have hco := rcon_any { R with sn := f } d2 HKH.out wr HDr.out
      have HCO := Lib.hid hco
      clear hco
      go_upto_region 10 with fail
      go_cut [41] (fun s41 wx => Hid (∃ f5, RAt wx { R with sn := f5 } d2.contradict ∧ Touch (fun k => k = R.g ∨ k = R.gt) wr wx))
      case first =>
       go_wp2_with fail
       refine HCO.out.mono ?_
       rintro e w5 ⟨rfl, f5, hD6, hT6⟩
       go_wp2_with fail
       go_meet
       exact ⟨f5, hD6, hT6⟩
      obtain ⟨f5, hD6, hT6⟩ := hcut.out
      clear hcut
      generalize wc = w5 at *
      have hok6 := HKH.out.contradict
      have hn6 : d2.contradict.num = d.num := (same_contradict d2).num.trans hnh
      have hr6 := (hT6.block w.heap.size hs5 fun hL => by
       have h0 := HD.out.own_lt R.g R.mem_g
       have h1 := HD.out.own_lt R.gt R.mem_gt
       rcases hL with e | e
       ·have e2 : w.heap.size = R.g := e
        omega
       ·have e2 : w.heap.size = R.gt := e
        omega).trans HR5.out
      have hT6' : Touch (fun k => k ∈ R.own) w w5 := HT5.out.trans hT6 fun n hn hL => by
       rcases hL with e | e
       ·rw [e]; exact R.mem_g
       ·rw [e]; exact R.mem_gt
      have hs6 : w.heap.size < w5.heap.size := Nat.lt_of_lt_of_le hs5 hT6.size
      have HN0 : Hid (RNew R { R with sn := f5 } w) := ⟨rfl, rfl, rfl, fun k hk => .inl hk⟩
      have HLO : Hid (∀ k ∈ ({ R with sn := f5 } : RM).own, k ≠ w.heap.size) := fun k hk e => by
       have := HD.out.own_lt k hk
       omega
      obtain ⟨R5, hR5⟩ : ∃ R5 : RM, ({ R with sn := f5 } : RM) = R5 := ⟨_, rfl⟩
      have hgg : R.g = R5.g := by rw [← hR5]
      rw [hR5] at hD6 HN0 HLO
      have HD5 := Lib.hid hD6
      have HRM := Lib.hid hr6
      have HT6 := Lib.hid hT6'
      have HK5 := Lib.hid hok6
      clear hD6 hr6 hT6 hT6' hok6 HCO HT5 HR5 HKH HDr hnh
      generalize d2.contradict = d5 at *
      have hn5 : d5.num < 1000000 := by rw [hn6]; exact HN.out
      have HPOST : Hid (∀ v W, RStepped R5 (doOn d5 m.got).1 (doOn d5 m.got).2 w5 v W →
       (badOn d m = true → Ending.returned (.tuple #[v, .int .i64 0]) = .returned (.tuple #[.slice none 0 0, .int .i64 2]) ∧ Below w.heap.size w W) ∧
       (badOn d m = false → d.left = true → Ending.returned (.tuple #[v, .int .i64 0]) = .returned (.tuple #[.slice none 0 0, .int .i64 16]) ∧ Below w.heap.size w W) ∧
       (badOn d m = false → d.left = false → ∃ u, Ending.returned (.tuple #[v, .int .i64 0]) = .returned (.tuple #[u, .int .i64 0]) ∧ RStepped R (d.on m.got).1 (d.on m.got).2 w u W)) := by
       intro v W hst
       refine ⟨?_, ?_, fun _ _ => ⟨v, rfl, ?_⟩⟩
       ·intro h
        rw [HX.out] at h
        cases h
       ·intro _ h
        rw [HL.out] at h
        cases h
       ·rw [HON.out]
        exact hst.after HN0.out HT6.out
      clear HX HL HON HN0 HT6 hR5 hn6 HN HOK HD HS HRB hsl
      go_step
      rw [hgg]
      by_cases n1 : m.kind = 1
      ·exact ron_ping R5 d5 m w.heap.size w5 _ HD5 HK5 hn5 HRM HLO hs6 HPOST n1
      ·by_cases n2 : m.kind = 2
       ·exact ron_ack R5 d5 m w.heap.size w5 _ HD5 HK5 hn5 HRM HLO hs6 HPOST n1 n2
       ·by_cases n3 : m.kind = 3
        ·exact ron_request R5 d5 m w.heap.size w5 _ HD5 HK5 hn5 HRM HLO hs6 HPOST n1 n2 n3
        ·exact ron_none R5 d5 m w.heap.size w5 _ HD5 HK5 hn5 HRM HLO hs6 HPOST n1 n2 n3
end Go.Proofs.YtejihgfigclppaaGreat
