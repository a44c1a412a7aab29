/-
  As Tell, of a region with an append among its operations, whatever comes ahead of it and behind it, and a tail that waits for all of them.
  As Tell: operations that are done just if a test says so.
  (*gossip.Gossip).On walked: a message that came.
-/
import Derived.Test.YtenkfnhcdfmkaaaGreatMStep
import Derived.Test.YtenkfnhcdfmkaaaGreatMGosV
import Derived.OwnWalk
namespace Go.Proofs.YtenkfnhcdfmkaaaGreat
open Go.RowKit
set_option linter.unusedVariables false
theorem Ag.mono {ds ds' : List Nat} {a a' : Act} (h : Ag ds a a') (hs : ∀ d ∈ ds, d ∈ ds') : Ag ds' a a' := ⟨h.1, h.2, fun d hd => h.3 d fun e => hd (hs d e)⟩
section
variable {P : Program} {ops : Array Oper} {Q : Exit → Act → World → Prop}
end
end Go.Proofs.YtenkfnhcdfmkaaaGreat
namespace Go.Proofs.YtenkfnhcdfmkaaaGreat
open Go.RowKit
set_option linter.unusedVariables false
section
variable {P : Program} {ops : Array Oper} {Q : Exit → Act → World → Prop}
theorem eval_tmp_some {a : Act} {d : Nat} (h : d < a.tmps.size) : a.tmps[d]? = some (a.eval (.tmp d)) := by
 simp [Act.eval, Array.getD_eq_getD_getElem?, h]
theorem wanted_is {j dj : Nat} {b c : Bool} {o oj : Oper} {a : Act} (hg : o.guard = some (j, b)) (hj : ops[j]? = some oj) (hdj : oj.dst = some dj) (hs : dj < a.tmps.size) (hb : a.eval (.tmp dj) = .bool c) : Region.wanted o (yielded ops a.tmps) = (c == b) := by
 unfold Region.wanted yielded
 rw [hg]
 simp only [hj, Option.bind_some, hdj, eval_tmp_some hs, hb]
 cases c <;> cases b <;> rfl
theorem leaves_val_g {i d j dj : Nat} {b : Bool} {o oj : Oper} {v : Value} {a : Act} {w w' : World} {F : Value → World → Prop} (hi : ops[i]? = some o) (hd : o.dst = some d) (hg : o.guard = some (j, b)) (hj : ops[j]? = some oj) (hdj : oj.dst = some dj) (hs : dj < a.tmps.size) (hb : a.eval (.tmp dj) = .bool b)
  (hv : (execOp a.eval o).run P w = .ok (.value v) w') (hbl : Below w.heap.size w w') (hF : F v w') : Leaves P ops Q i d F a w := by
 unfold Leaves wpOp
 rw [hi]
 have hw : Region.wanted o (yielded ops a.tmps) = true := by rw [wanted_is hg hj hdj hs hb]; cases b <;> rfl
 simp only [hw, if_true]
 refine .inl ?_
 unfold Oper.wp
 rw [hv]
 simp only [Oper.upon, hd]
 exact ⟨v, rfl, hbl, hF⟩
theorem leaves_no_g {i d j dj : Nat} {b : Bool} {o oj : Oper} {a : Act} {w : World} {F : Value → World → Prop} (hi : ops[i]? = some o) (hd : o.dst = some d) (hg : o.guard = some (j, b)) (hj : ops[j]? = some oj) (hdj : oj.dst = some dj) (hs : dj < a.tmps.size) (hb : a.eval (.tmp dj) = .bool (!b))
  (hF : ∀ v, F v w) : Leaves P ops Q i d F a w := by
 unfold Leaves wpOp
 rw [hi]
 have hw : Region.wanted o (yielded ops a.tmps) = false := by rw [wanted_is hg hj hdj hs hb]; cases b <;> rfl
 simp only [hw, if_false, Bool.false_eq_true]
 exact ⟨undef, by rw [hd], Below.refl _ _, hF _⟩
end
end Go.Proofs.YtenkfnhcdfmkaaaGreat
namespace Go.Proofs.YtenkfnhcdfmkaaaGreat
open Go.Shelf Go.RowKit Go.Lib Go.Sort
set_option linter.unusedVariables false
set_option linter.unusedSimpArgs false
noncomputable def badG (x : Gsp) (m : Msg) : Bool := !(m.rightB && decide (m.to_ = x.self))
theorem badG_false {x : Gsp} {m : Msg} (h : badG x m = false) : m.right ∧ m.to_ = x.self := by
 unfold badG at h
 rw [Bool.not_eq_false', Bool.and_eq_true, decide_eq_true_eq] at h
 refine ⟨?_, h.2⟩
 by_cases hr : m.right
 ·exact hr
 ·rw [Msg.rightB_false hr] at h
  exact absurd h.1 (by simp)
set_option maxHeartbeats 1000000 in
theorem gon_nil (m : Msg) (w : World) : Calls Tryz.prog 13 #[.pointer none, .agg #[.int .i64 m.kind, .int .i64 m.frm, .int .i64 m.to_, .int .i64 m.seq, .int .i64 m.node, .int .i64 (m.u 0), .int .i64 (m.u 1), .int .i64 (m.u 2), .int .i64 (m.u 3), .int .i64 (m.u 4), .int .i64 (m.u 5), .int .i64 (m.u 6), .int .i64 (m.u 7), m.hm.val, m.he.val, m.hs.val]] w fun e w' => e = .returned (.tuple #[.slice none 0 0, .slice none 0 0, .int .i64 1]) ∧ Below w.heap.size w w' := by
 go_enter Tryz.func13, Tryz.ntmps13
 go_wp2_with fail
 go_ret3
 exact ⟨rfl, (Below.refl _ _).alloc (Nat.le_refl _) _⟩
structure OnG (M : GM) (x : Gsp) (m : Msg) (w : World) (e : Ending) (w' : World) : Prop where
 bad : badG x m = true → e = .returned (.tuple #[.slice none 0 0, .slice none 0 0, .int .i64 2]) ∧ Below w.heap.size w w'
 told : badG x m = false → m.kind = 4 → ∃ (v : Value) (ds tail : List Msg), e = .returned (.tuple #[v, .slice none 0 0, .int .i64 0]) ∧ MRow w.heap.size w' v (ds ++ tail) ∧ Told x m ds tail ∧ Below w.heap.size w w'
 given : badG x m = false → m.kind = 5 → ∃ (hd : Hdr) (qs : List PEv), e = .returned (.tuple #[.slice none 0 0, hd.val, .int .i64 0]) ∧ Acc w.heap.size 44 40 w' hd.val qs ∧ qs.map (·.2) = (givenB x.S (m.evs.map (·.2))).2 ∧ GAt w' M ⟨x.self, x.mtu, x.s, (givenB x.S (m.evs.map (·.2))).1⟩ ∧ Touch M.own w w'
 other : badG x m = false → m.kind ≠ 4 → m.kind ≠ 5 → e = .returned (.tuple #[.slice none 0 0, .slice none 0 0, .int .i64 0]) ∧ Below w.heap.size w w'
set_option maxRecDepth 100000 in
set_option maxHeartbeats 8000000 in
theorem gon_any (M : GM) (x : Gsp) (hok : x.Ok) (m : Msg) (hs : m.small) (w : World) (h : GAt w M x) (hm : MsgIn w m) (hcl : EvsClear M.own m.he.val m.evs) :
  Calls Tryz.prog 13 #[.pointer (some ⟨M.g, 0, none⟩), .agg #[.int .i64 m.kind, .int .i64 m.frm, .int .i64 m.to_, .int .i64 m.seq, .int .i64 m.node, .int .i64 (m.u 0), .int .i64 (m.u 1), .int .i64 (m.u 2), .int .i64 (m.u 3), .int .i64 (m.u 4), .int .i64 (m.u 5), .int .i64 (m.u 6), .int .i64 (m.u 7), m.hm.val, m.he.val, m.hs.val]] w (OnG M x m w) := by
 have hp : Tryz.prog.follows .mixedOrders = true := by kernel_rfl
 have hp2 : Tryz.prog.follows .lateStores = true := by kernel_rfl
 have hmm := @run_makeMap Tryz.prog
 have eg4 : ∀ args w, (callFunc 49 args).run Tryz.prog w = .ok (.enter 49 args) w := enters_of Tryz.func49 (by kernel_rfl) rfl
 have eg5 : ∀ args w, (callFunc 50 args).run Tryz.prog w = .ok (.enter 50 args) w := enters_of Tryz.func50 (by kernel_rfl) rfl
 obtain ⟨w1, hw1⟩ : ∃ w1, w.alloc (.cells #[.int .i64 m.kind, .int .i64 m.frm, .int .i64 m.to_, .int .i64 m.seq, .int .i64 m.node, .int .i64 (m.u 0), .int .i64 (m.u 1), .int .i64 (m.u 2), .int .i64 (m.u 3), .int .i64 (m.u 4), .int .i64 (m.u 5), .int .i64 (m.u 6), .int .i64 (m.u 7), m.hm.val, m.he.val, m.hs.val] 38) = w1 := ⟨_, rfl⟩
 have hb1 : Below w.heap.size w w1 := by rw [← hw1]; exact (Below.refl _ _).alloc (Nat.le_refl _) _
 have hr1 : w1.heap[w.heap.size]? = some (.cells #[.int .i64 m.kind, .int .i64 m.frm, .int .i64 m.to_, .int .i64 m.seq, .int .i64 m.node, .int .i64 (m.u 0), .int .i64 (m.u 1), .int .i64 (m.u 2), .int .i64 (m.u 3), .int .i64 (m.u 4), .int .i64 (m.u 5), .int .i64 (m.u 6), .int .i64 (m.u 7), m.hm.val, m.he.val, m.hs.val] 38) := by rw [← hw1]; exact heap_alloc_new w _
 have hml : w.heap.size < w1.heap.size := (Array.getElem?_eq_some_iff.1 hr1).1
 have hgl : M.g < w1.heap.size := by have := h.lt; omega
 have k0 : w1.cell? ⟨M.g, 0, none⟩ = some (.int .i64 x.self) := (h.below hb1 (Nat.le_refl _)).cells.1
 have m2 : w1.cell? ⟨w.heap.size, 2, none⟩ = some (.int .i64 m.to_) := cell_of_row w1 _ 2 _ _ _ hr1
 have hrt := fun (W : World) (hW : Below w1.heap.size w1 W) => msgRight_any m W ((hm.below hb1 (Nat.le_refl _)).below hW (Nat.le_refl _)) hs
 obtain ⟨rb, hrb⟩ : ∃ rb, m.rightB = rb := ⟨_, rfl⟩
 rw [hrb] at hrt
 have HRB := Lib.hid hrb
 have HRT := Lib.hid hrt
 have HW1 := Lib.hid hw1
 have HB1 := Lib.hid hb1
 have HR1 := Lib.hid hr1
 have HG := Lib.hid h
 have HM := Lib.hid hm
 have HOK := Lib.hid hok
 have HS := Lib.hid hs
 have HCL := Lib.hid hcl
 have EG4 := Lib.hid eg4
 have EG5 := Lib.hid eg5
 clear hrb hrt hw1 hb1 hr1 h hm hok hs hcl eg4 eg5
 go_enter Tryz.func13, Tryz.ntmps13
 go_upto_region 1 with fail
 rw [HW1.out]
 go_wp2_with fail
 obtain ⟨bad, hbad⟩ : ∃ bad, badG x m = bad := ⟨_, rfl⟩
 have HBAD := Lib.hid hbad
 clear hbad
 go_cut [14] (fun s14 wx => s14 = .bool bad ∧ Hid (Below w1.heap.size w1 wx))
 case first =>
  cases rb with
  | false =>
   have eb : bad = true := by rw [← HBAD.out]; unfold badG; rw [HRB.out]; rfl
   refine tell_region (by kernel_rfl) [(15, fun v _ => v = .agg #[.int .i64 m.kind, .int .i64 m.frm, .int .i64 m.to_, .int .i64 m.seq, .int .i64 m.node, .int .i64 (m.u 0), .int .i64 (m.u 1), .int .i64 (m.u 2), .int .i64 (m.u 3), .int .i64 (m.u 4), .int .i64 (m.u 5), .int .i64 (m.u 6), .int .i64 (m.u 7), m.hm.val, m.he.val, m.hs.val]), (16, fun v _ => v = .bool false), (17, fun v _ => v = .bool true), (18, fun v _ => v = .bool true), (19, fun _ _ => True), (20, fun _ _ => True), (21, fun _ _ => True), (22, fun _ _ => True), (23, fun _ _ => True), (24, fun _ _ => True), (25, fun _ _ => True), (26, fun v _ => v = .bool bad), (14, fun v _ => v = .bool bad)] rfl (by show ([15, 16, 17, 18, 19, 20, 21, 22, 23, 24, 25, 26, 14] : List Nat).Nodup; decide) (by show ∀ d ∈ ([15, 16, 17, 18, 19, 20, 21, 22, 23, 24, 25, 26, 14] : List Nat), d < 48; decide) (by kernel_rfl) ?hmono ?hstep ?hend
   case hmono =>
    intro p hp
    simp only [List.mem_cons, List.not_mem_nil, or_false] at hp
    rcases hp with rfl | rfl | rfl | rfl | rfl | rfl | rfl | rfl | rfl | rfl | rfl | rfl | rfl
    ·exact lasts_pure _
    ·exact lasts_pure _
    ·exact lasts_pure _
    ·exact lasts_pure _
    ·exact lasts_pure _
    ·exact lasts_pure _
    ·exact lasts_pure _
    ·exact lasts_pure _
    ·exact lasts_pure _
    ·exact lasts_pure _
    ·exact lasts_pure _
    ·exact lasts_pure _
    ·exact lasts_pure _
   case hstep =>
    intro i hi r w' hag hbel hn
    have hi2 : i < 13 := hi
    rcases (show i = 0 ∨ i = 1 ∨ i = 2 ∨ i = 3 ∨ i = 4 ∨ i = 5 ∨ i = 6 ∨ i = 7 ∨ i = 8 ∨ i = 9 ∨ i = 10 ∨ i = 11 ∨ i = 12 by omega) with rfl | rfl | rfl | rfl | rfl | rfl | rfl | rfl | rfl | rfl | rfl | rfl | rfl
    ·skip
     have e3 : r.eval (.tmp 3) = .pointer (some ⟨w.heap.size, 0, none⟩) := (hag.out 3 (by simp)).trans rfl
     exact leaves_loadAgg rfl rfl rfl 38 (.tmp 3) rfl 16 (by kernel_rfl) (by kernel_rfl) ⟨w.heap.size, 0, none⟩ e3 _ (load_whole ((hbel.block w.heap.size hml).trans HR1.out) rfl) rfl
    ·skip
     have e15 : r.eval (.tmp 15) = .agg #[.int .i64 m.kind, .int .i64 m.frm, .int .i64 m.to_, .int .i64 m.seq, .int .i64 m.node, .int .i64 (m.u 0), .int .i64 (m.u 1), .int .i64 (m.u 2), .int .i64 (m.u 3), .int .i64 (m.u 4), .int .i64 (m.u 5), .int .i64 (m.u 6), .int .i64 (m.u 7), m.hm.val, m.he.val, m.hs.val] := hn 0 (by simp) ⟨_, rfl, ⟨0, .data⟩, by simp, rfl, rfl⟩
     refine leaves_call (f := 12) (args := #[.agg #[.int .i64 m.kind, .int .i64 m.frm, .int .i64 m.to_, .int .i64 m.seq, .int .i64 m.node, .int .i64 (m.u 0), .int .i64 (m.u 1), .int .i64 (m.u 2), .int .i64 (m.u 3), .int .i64 (m.u 4), .int .i64 (m.u 5), .int .i64 (m.u 6), .int .i64 (m.u 7), m.hm.val, m.he.val, m.hs.val]]) rfl rfl rfl (by have ef : r.eval (.func 12) = .func (.func 12) #[] #[] := rfl; generalize r.eval = ρ at ef e15 ⊢; go_simp) (HRT.out w' hbel) ?_
     rintro e2 w2 ⟨rfl, hb⟩
     exact ⟨_, rfl, hb, rfl⟩
    ·skip
     have e16 : r.eval (.tmp 16) = .bool false := hn 1 (by simp) ⟨_, rfl, ⟨1, .data⟩, by simp, rfl, rfl⟩
     exact leaves_val rfl rfl rfl (v := .bool true) (by generalize r.eval = ρ at e16 ⊢; go_simp) (Below.refl _ _) rfl
    ·skip
     have e17 : r.eval (.tmp 17) = .bool true := hn 2 (by simp) ⟨_, rfl, ⟨2, .data⟩, by simp, rfl, rfl⟩
     exact leaves_val rfl rfl rfl (v := .bool true) (by generalize r.eval = ρ at e17 ⊢; go_simp) (Below.refl _ _) rfl
    ·skip
     have eg : r.eval (.tmp 18) = .bool true := hn 3 (by simp) ⟨_, rfl, ⟨3, .guard⟩, by simp, rfl, rfl⟩
     exact leaves_no_g rfl rfl rfl rfl rfl (by rw [hag.size]; show 18 < 48; decide) eg fun _ => trivial
    ·skip
     have eg : r.eval (.tmp 18) = .bool true := hn 3 (by simp) ⟨_, rfl, ⟨3, .guard⟩, by simp, rfl, rfl⟩
     exact leaves_no_g rfl rfl rfl rfl rfl (by rw [hag.size]; show 18 < 48; decide) eg fun _ => trivial
    ·skip
     have eg : r.eval (.tmp 18) = .bool true := hn 3 (by simp) ⟨_, rfl, ⟨3, .guard⟩, by simp, rfl, rfl⟩
     exact leaves_no_g rfl rfl rfl rfl rfl (by rw [hag.size]; show 18 < 48; decide) eg fun _ => trivial
    ·skip
     have eg : r.eval (.tmp 18) = .bool true := hn 3 (by simp) ⟨_, rfl, ⟨3, .guard⟩, by simp, rfl, rfl⟩
     exact leaves_no_g rfl rfl rfl rfl rfl (by rw [hag.size]; show 18 < 48; decide) eg fun _ => trivial
    ·skip
     have eg : r.eval (.tmp 18) = .bool true := hn 3 (by simp) ⟨_, rfl, ⟨3, .guard⟩, by simp, rfl, rfl⟩
     exact leaves_no_g rfl rfl rfl rfl rfl (by rw [hag.size]; show 18 < 48; decide) eg fun _ => trivial
    ·skip
     have eg : r.eval (.tmp 18) = .bool true := hn 3 (by simp) ⟨_, rfl, ⟨3, .guard⟩, by simp, rfl, rfl⟩
     exact leaves_no_g rfl rfl rfl rfl rfl (by rw [hag.size]; show 18 < 48; decide) eg fun _ => trivial
    ·skip
     have eg : r.eval (.tmp 18) = .bool true := hn 3 (by simp) ⟨_, rfl, ⟨3, .guard⟩, by simp, rfl, rfl⟩
     exact leaves_no_g rfl rfl rfl rfl rfl (by rw [hag.size]; show 18 < 48; decide) eg fun _ => trivial
    ·skip
     have e18 : r.eval (.tmp 18) = .bool true := hn 3 (by simp) ⟨_, rfl, ⟨3, .data⟩, by simp, rfl, rfl⟩
     have ec0 : r.eval (.const (.bool true)) = .bool true := rfl
     exact leaves_val rfl rfl rfl (v := .bool bad) (by generalize r.eval = ρ at e18 ec0 ⊢; go_simp) (Below.refl _ _) rfl
    ·skip
     have e26 : r.eval (.tmp 26) = .bool bad := hn 11 (by simp) ⟨_, rfl, ⟨11, .data⟩, by simp, rfl, rfl⟩
     exact leaves_val rfl rfl rfl (v := .bool bad) (by generalize r.eval = ρ at e26 ⊢; go_simp) (Below.refl _ _) rfl
   case hend =>
    intro r w' hag hbel hall
    have e14 : r.eval (.tmp 14) = .bool bad := hall 12 (by simp)
    have hfin := Ag.final _ (by show ∀ d ∈ ([15, 16, 17, 18, 19, 20, 21, 22, 23, 24, 25, 26, 14] : List Nat), d < 48; decide) hag
    simp only [List.map, List.foldl, e14] at hfin
    generalize r.eval (.tmp 15) = y15 at hfin
    generalize r.eval (.tmp 16) = y16 at hfin
    generalize r.eval (.tmp 17) = y17 at hfin
    generalize r.eval (.tmp 18) = y18 at hfin
    generalize r.eval (.tmp 19) = y19 at hfin
    generalize r.eval (.tmp 20) = y20 at hfin
    generalize r.eval (.tmp 21) = y21 at hfin
    generalize r.eval (.tmp 22) = y22 at hfin
    generalize r.eval (.tmp 23) = y23 at hfin
    generalize r.eval (.tmp 24) = y24 at hfin
    generalize r.eval (.tmp 25) = y25 at hfin
    generalize r.eval (.tmp 26) = y26 at hfin
    have HBB := Lib.hid hbel
    clear e14 hall hag hbel
    subst hfin
    simp only [Act.put, List.setIfInBounds_toArray, List.set_cons_succ, List.set_cons_zero]
    go_wp2_with fail
    go_meet
    exact ⟨rfl, HBB.out⟩
  | true =>
   have hne : (m.to_ != x.self) = bad := by rw [← HBAD.out]; unfold badG; rw [HRB.out, Bool.true_and, Bool.eq_iff_iff]; simp
   refine tell_region (by kernel_rfl) [(15, fun v _ => v = .agg #[.int .i64 m.kind, .int .i64 m.frm, .int .i64 m.to_, .int .i64 m.seq, .int .i64 m.node, .int .i64 (m.u 0), .int .i64 (m.u 1), .int .i64 (m.u 2), .int .i64 (m.u 3), .int .i64 (m.u 4), .int .i64 (m.u 5), .int .i64 (m.u 6), .int .i64 (m.u 7), m.hm.val, m.he.val, m.hs.val]), (16, fun v _ => v = .bool true), (17, fun v _ => v = .bool false), (18, fun v _ => v = .bool false), (19, fun v _ => v = .pointer (some ⟨w.heap.size, 2, none⟩)), (20, fun v _ => v = .int .i64 m.to_), (21, fun v _ => v = .pointer (some ⟨M.g, 0, none⟩)), (22, fun v _ => v = .pointer (some ⟨M.g, 0, none⟩)), (23, fun v _ => v = .pointer (some ⟨M.g, 0, none⟩)), (24, fun v _ => v = .int .i64 x.self), (25, fun v _ => v = .bool bad), (26, fun v _ => v = .bool bad), (14, fun v _ => v = .bool bad)] rfl (by show ([15, 16, 17, 18, 19, 20, 21, 22, 23, 24, 25, 26, 14] : List Nat).Nodup; decide) (by show ∀ d ∈ ([15, 16, 17, 18, 19, 20, 21, 22, 23, 24, 25, 26, 14] : List Nat), d < 48; decide) (by kernel_rfl) ?hmono ?hstep ?hend
   case hmono =>
    intro p hp
    simp only [List.mem_cons, List.not_mem_nil, or_false] at hp
    rcases hp with rfl | rfl | rfl | rfl | rfl | rfl | rfl | rfl | rfl | rfl | rfl | rfl | rfl
    ·exact lasts_pure _
    ·exact lasts_pure _
    ·exact lasts_pure _
    ·exact lasts_pure _
    ·exact lasts_pure _
    ·exact lasts_pure _
    ·exact lasts_pure _
    ·exact lasts_pure _
    ·exact lasts_pure _
    ·exact lasts_pure _
    ·exact lasts_pure _
    ·exact lasts_pure _
    ·exact lasts_pure _
   case hstep =>
    intro i hi r w' hag hbel hn
    have hi2 : i < 13 := hi
    rcases (show i = 0 ∨ i = 1 ∨ i = 2 ∨ i = 3 ∨ i = 4 ∨ i = 5 ∨ i = 6 ∨ i = 7 ∨ i = 8 ∨ i = 9 ∨ i = 10 ∨ i = 11 ∨ i = 12 by omega) with rfl | rfl | rfl | rfl | rfl | rfl | rfl | rfl | rfl | rfl | rfl | rfl | rfl
    ·skip
     have e3 : r.eval (.tmp 3) = .pointer (some ⟨w.heap.size, 0, none⟩) := (hag.out 3 (by simp)).trans rfl
     exact leaves_loadAgg rfl rfl rfl 38 (.tmp 3) rfl 16 (by kernel_rfl) (by kernel_rfl) ⟨w.heap.size, 0, none⟩ e3 _ (load_whole ((hbel.block w.heap.size hml).trans HR1.out) rfl) rfl
    ·skip
     have e15 : r.eval (.tmp 15) = .agg #[.int .i64 m.kind, .int .i64 m.frm, .int .i64 m.to_, .int .i64 m.seq, .int .i64 m.node, .int .i64 (m.u 0), .int .i64 (m.u 1), .int .i64 (m.u 2), .int .i64 (m.u 3), .int .i64 (m.u 4), .int .i64 (m.u 5), .int .i64 (m.u 6), .int .i64 (m.u 7), m.hm.val, m.he.val, m.hs.val] := hn 0 (by simp) ⟨_, rfl, ⟨0, .data⟩, by simp, rfl, rfl⟩
     refine leaves_call (f := 12) (args := #[.agg #[.int .i64 m.kind, .int .i64 m.frm, .int .i64 m.to_, .int .i64 m.seq, .int .i64 m.node, .int .i64 (m.u 0), .int .i64 (m.u 1), .int .i64 (m.u 2), .int .i64 (m.u 3), .int .i64 (m.u 4), .int .i64 (m.u 5), .int .i64 (m.u 6), .int .i64 (m.u 7), m.hm.val, m.he.val, m.hs.val]]) rfl rfl rfl (by have ef : r.eval (.func 12) = .func (.func 12) #[] #[] := rfl; generalize r.eval = ρ at ef e15 ⊢; go_simp) (HRT.out w' hbel) ?_
     rintro e2 w2 ⟨rfl, hb⟩
     exact ⟨_, rfl, hb, rfl⟩
    ·skip
     have e16 : r.eval (.tmp 16) = .bool true := hn 1 (by simp) ⟨_, rfl, ⟨1, .data⟩, by simp, rfl, rfl⟩
     exact leaves_val rfl rfl rfl (v := .bool false) (by generalize r.eval = ρ at e16 ⊢; go_simp) (Below.refl _ _) rfl
    ·skip
     have e17 : r.eval (.tmp 17) = .bool false := hn 2 (by simp) ⟨_, rfl, ⟨2, .data⟩, by simp, rfl, rfl⟩
     exact leaves_val rfl rfl rfl (v := .bool false) (by generalize r.eval = ρ at e17 ⊢; go_simp) (Below.refl _ _) rfl
    ·skip
     have eg : r.eval (.tmp 18) = .bool false := hn 3 (by simp) ⟨_, rfl, ⟨3, .guard⟩, by simp, rfl, rfl⟩
     have e3 : r.eval (.tmp 3) = .pointer (some ⟨w.heap.size, 0, none⟩) := (hag.out 3 (by simp)).trans rfl
     exact leaves_val_g rfl rfl rfl rfl rfl (by rw [hag.size]; show 18 < 48; decide) eg (v := .pointer (some ⟨w.heap.size, 2, none⟩)) (by generalize r.eval = ρ at e3 ⊢; go_simp) (Below.refl _ _) rfl
    ·skip
     have eg : r.eval (.tmp 18) = .bool false := hn 3 (by simp) ⟨_, rfl, ⟨3, .guard⟩, by simp, rfl, rfl⟩
     have e19 : r.eval (.tmp 19) = .pointer (some ⟨w.heap.size, 2, none⟩) := hn 4 (by simp) ⟨_, rfl, ⟨4, .data⟩, by simp, rfl, rfl⟩
     have c2 : w'.cell? ⟨w.heap.size, 2, none⟩ = some (.int .i64 m.to_) := (hbel.cell (p := ⟨w.heap.size, 2, none⟩) hml).trans m2
     exact leaves_val_g rfl rfl rfl rfl rfl (by rw [hag.size]; show 18 < 48; decide) eg (v := .int .i64 m.to_) (by generalize r.eval = ρ at e19 ⊢; go_simp) (Below.refl _ _) rfl
    ·skip
     have eg : r.eval (.tmp 18) = .bool false := hn 3 (by simp) ⟨_, rfl, ⟨3, .guard⟩, by simp, rfl, rfl⟩
     have e0 : r.eval (.tmp 0) = .pointer (some ⟨M.g, 0, none⟩) := (hag.out 0 (by simp)).trans rfl
     exact leaves_val_g rfl rfl rfl rfl rfl (by rw [hag.size]; show 18 < 48; decide) eg (v := .pointer (some ⟨M.g, 0, none⟩)) (by generalize r.eval = ρ at e0 ⊢; go_simp) (Below.refl _ _) rfl
    ·skip
     have eg : r.eval (.tmp 18) = .bool false := hn 3 (by simp) ⟨_, rfl, ⟨3, .guard⟩, by simp, rfl, rfl⟩
     have e21 : r.eval (.tmp 21) = .pointer (some ⟨M.g, 0, none⟩) := hn 6 (by simp) ⟨_, rfl, ⟨6, .data⟩, by simp, rfl, rfl⟩
     exact leaves_val_g rfl rfl rfl rfl rfl (by rw [hag.size]; show 18 < 48; decide) eg (v := .pointer (some ⟨M.g, 0, none⟩)) (by generalize r.eval = ρ at e21 ⊢; go_simp) (Below.refl _ _) rfl
    ·skip
     have eg : r.eval (.tmp 18) = .bool false := hn 3 (by simp) ⟨_, rfl, ⟨3, .guard⟩, by simp, rfl, rfl⟩
     have e22 : r.eval (.tmp 22) = .pointer (some ⟨M.g, 0, none⟩) := hn 7 (by simp) ⟨_, rfl, ⟨7, .data⟩, by simp, rfl, rfl⟩
     exact leaves_val_g rfl rfl rfl rfl rfl (by rw [hag.size]; show 18 < 48; decide) eg (v := .pointer (some ⟨M.g, 0, none⟩)) (by generalize r.eval = ρ at e22 ⊢; go_simp) (Below.refl _ _) rfl
    ·skip
     have eg : r.eval (.tmp 18) = .bool false := hn 3 (by simp) ⟨_, rfl, ⟨3, .guard⟩, by simp, rfl, rfl⟩
     have e23 : r.eval (.tmp 23) = .pointer (some ⟨M.g, 0, none⟩) := hn 8 (by simp) ⟨_, rfl, ⟨8, .data⟩, by simp, rfl, rfl⟩
     have c0 : w'.cell? ⟨M.g, 0, none⟩ = some (.int .i64 x.self) := (hbel.cell (p := ⟨M.g, 0, none⟩) hgl).trans k0
     exact leaves_val_g rfl rfl rfl rfl rfl (by rw [hag.size]; show 18 < 48; decide) eg (v := .int .i64 x.self) (by generalize r.eval = ρ at e23 ⊢; go_simp) (Below.refl _ _) rfl
    ·skip
     have eg : r.eval (.tmp 18) = .bool false := hn 3 (by simp) ⟨_, rfl, ⟨3, .guard⟩, by simp, rfl, rfl⟩
     have e20 : r.eval (.tmp 20) = .int .i64 m.to_ := hn 5 (by simp) ⟨_, rfl, ⟨5, .data⟩, by simp, rfl, rfl⟩
     have e24 : r.eval (.tmp 24) = .int .i64 x.self := hn 9 (by simp) ⟨_, rfl, ⟨9, .data⟩, by simp, rfl, rfl⟩
     exact leaves_val_g rfl rfl rfl rfl rfl (by rw [hag.size]; show 18 < 48; decide) eg (v := .bool bad) (by generalize r.eval = ρ at e20 e24 ⊢; go_simp) (Below.refl _ _) rfl
    ·skip
     have e18 : r.eval (.tmp 18) = .bool false := hn 3 (by simp) ⟨_, rfl, ⟨3, .data⟩, by simp, rfl, rfl⟩
     have e25 : r.eval (.tmp 25) = .bool bad := hn 10 (by simp) ⟨_, rfl, ⟨10, .data⟩, by simp, rfl, rfl⟩
     have ec0 : r.eval (.const (.bool true)) = .bool true := rfl
     exact leaves_val rfl rfl rfl (v := .bool bad) (by generalize r.eval = ρ at e18 e25 ec0 ⊢; go_simp) (Below.refl _ _) rfl
    ·skip
     have e26 : r.eval (.tmp 26) = .bool bad := hn 11 (by simp) ⟨_, rfl, ⟨11, .data⟩, by simp, rfl, rfl⟩
     exact leaves_val rfl rfl rfl (v := .bool bad) (by generalize r.eval = ρ at e26 ⊢; go_simp) (Below.refl _ _) rfl
   case hend =>
    intro r w' hag hbel hall
    have e14 : r.eval (.tmp 14) = .bool bad := hall 12 (by simp)
    have hfin := Ag.final _ (by show ∀ d ∈ ([15, 16, 17, 18, 19, 20, 21, 22, 23, 24, 25, 26, 14] : List Nat), d < 48; decide) hag
    simp only [List.map, List.foldl, e14] at hfin
    generalize r.eval (.tmp 15) = y15 at hfin
    generalize r.eval (.tmp 16) = y16 at hfin
    generalize r.eval (.tmp 17) = y17 at hfin
    generalize r.eval (.tmp 18) = y18 at hfin
    generalize r.eval (.tmp 19) = y19 at hfin
    generalize r.eval (.tmp 20) = y20 at hfin
    generalize r.eval (.tmp 21) = y21 at hfin
    generalize r.eval (.tmp 22) = y22 at hfin
    generalize r.eval (.tmp 23) = y23 at hfin
    generalize r.eval (.tmp 24) = y24 at hfin
    generalize r.eval (.tmp 25) = y25 at hfin
    generalize r.eval (.tmp 26) = y26 at hfin
    have HBB := Lib.hid hbel
    clear e14 hall hag hbel
    subst hfin
    simp only [Act.put, List.setIfInBounds_toArray, List.set_cons_succ, List.set_cons_zero]
    go_wp2_with fail
    go_meet
    exact ⟨rfl, HBB.out⟩
 case rest =>
  obtain ⟨rfl, HBW⟩ := hcut
  have hbc := HB1.out.trans (HBW.out.mono HB1.out.size)
  have hrc := (HBW.out.block _ hml).trans HR1.out
  have HBC := Lib.hid hbc
  have HRC := Lib.hid hrc
  clear hbc hrc HR1 HB1 HBW HW1 HRT m2 k0
  cases bad with
  | true =>
   go_wp2_with fail
   go_ret3
   exact ⟨fun _ => ⟨rfl, HBC.out⟩, fun h => (by rw [HBAD.out] at h; cases h), fun h => (by rw [HBAD.out] at h; cases h), fun h => (by rw [HBAD.out] at h; cases h)⟩
  | false =>
   have hrg := badG_false HBAD.out
   have hk15 := hrg.1.kind
   have hlc : w.heap.size < wc.heap.size := (Array.getElem?_eq_some_iff.1 HRC.out).1
   have hmap : (wc.alloc (.map #[] 0)).heap[wc.heap.size]? = some (.map #[] 0) := heap_alloc_new wc _
   obtain ⟨wA, wB, z, hr4, hr5, hgA, hgB, hlk⟩ := table_any _ _ hmap (.func (.func 49) #[.pointer (some ⟨M.g, 0, none⟩)] #[]) (.func (.func 50) #[.pointer (some ⟨M.g, 0, none⟩)] #[])
   have hlk2 := hlk m.kind (WalkArith.wf_i64 (by omega))
   have hbA : Below wc.heap.size wc (wc.alloc (.map #[] 0)) := (Below.refl _ _).alloc (Nat.le_refl _) _
   have hbB : Below wc.heap.size wc wB := (hbA.grown hgA hbA.size fun k hk => by cases hk; exact Nat.le_refl _).grown hgB (Nat.le_trans hbA.size hgA.size) fun k hk => by cases hk; exact Nat.le_refl _
   have hwB := HBC.out.trans (hbB.mono HBC.out.size)
   have hrB := (hbB.block w.heap.size hlc).trans HRC.out
   have HGB := Lib.hid (HG.out.below hwB (Nat.le_refl _))
   have HMB := Lib.hid (HM.out.below hwB (Nat.le_refl _))
   have c0 : wB.cell? ⟨w.heap.size, 0, none⟩ = some (.int .i64 m.kind) := cell_of_row wB _ 0 _ _ _ hrB
   have HLD := Lib.hid (load_whole hrB rfl)
   have HWB := Lib.hid hwB
   have HRG := Lib.hid hrg
   clear hlk hgA hgB hbA hbB hwB hrB hmap hrg hk15 HBC HRC
   by_cases h4 : m.kind = 4
   ·rw [if_pos h4, decide_eq_true (Or.inl h4)] at hlk2
    have HT := Lib.hid (told_any M x HOK.out m HS.out HRG.out.1 HRG.out.2 wB HGB.out HMB.out)
    have H4 := Lib.hid h4
    have eg := EG4.out
    clear h4 EG5
    go_wp2_with (refine wpList_loadAgg _ rfl 38 _ rfl 16 (by kernel_rfl) (by kernel_rfl) ⟨w.heap.size, 0, none⟩ rfl _ HLD.out ?_)
    refine HT.out.mono ?_
    rintro e w5 ⟨v, ds, tail, rfl, hrow, htold, hga, hb5⟩
    obtain ⟨ov, cv, hv⟩ := slAt_slice hrow.row.at
    subst hv
    obtain ⟨nn, hnn⟩ : ∃ nn, (ds ++ tail).length = nn := ⟨_, rfl⟩
    rw [hnn] at hrow ⊢
    clear hnn
    have hb6 : RowKit.Below w5.heap.size w5 (w5.alloc (.cells #[.slice ov nn cv, .slice none 0 0] 112)) := (Below.refl _ _).alloc (Nat.le_refl _) _
    have hr6 : (w5.alloc (.cells #[.slice ov nn cv, .slice none 0 0] 112)).heap[w5.heap.size]? = some (.cells #[.slice ov nn cv, .slice none 0 0] 112) := heap_alloc_new w5 _
    obtain ⟨w6, hw6⟩ : ∃ w6, w5.alloc (.cells #[.slice ov nn cv, .slice none 0 0] 112) = w6 := ⟨_, rfl⟩
    rw [hw6] at hb6 hr6
    have a0 : w6.cell? ⟨w5.heap.size, 0, none⟩ = some (.slice ov nn cv) := cell_of_row w6 _ 0 _ _ _ hr6
    have a1 : w6.cell? ⟨w5.heap.size, 1, none⟩ = some (.slice none 0 0) := cell_of_row w6 _ 1 _ _ _ hr6
    have HW6 := Lib.hid hw6
    have hbd := below_drew (Below.refl w6.heap.size w6)
    have H1 := Lib.hid (((hrow.below hb6 (Nat.le_refl _)).below hbd (Nat.le_refl _)).lower HWB.out.size)
    have H2 := Lib.hid htold
    have H3 := Lib.hid (HWB.out.trans ((hb5.trans ((hb6.trans (hbd.mono hb6.size)).mono hb5.size)).mono HWB.out.size))
    clear hw6 hb6 hr6 hbd hrow htold hga hb5 HT HLD HGB HMB c0 hlk2 hr4 hr5
    go_upto_region 9 with fail
    rw [HW6.out]
    go_region_law (fail)
    all_goals
     go_wp2_with fail
     go_ret3
     exact ⟨fun h => (by rw [HBAD.out] at h; cases h), fun _ _ => ⟨_, ds, tail, rfl, H1.out, H2.out, H3.out⟩, fun _ h5 => (by rw [H4.out] at h5; exact absurd h5 (by decide)), fun _ hn => absurd H4.out hn⟩
   ·rw [if_neg h4] at hlk2
    by_cases h5 : m.kind = 5
    ·rw [if_pos h5, decide_eq_true (Or.inr h5)] at hlk2
     have hclB : EvsClear M.own m.he.val m.evs := HCL.out
     have HT := Lib.hid (given_any M x HOK.out m HS.out wB HGB.out HMB.out hclB)
     have H5 := Lib.hid h5
     have HN4 := Lib.hid h4
     have eg := EG5.out
     clear h4 h5 EG4 hclB
     go_wp2_with (refine wpList_loadAgg _ rfl 38 _ rfl 16 (by kernel_rfl) (by kernel_rfl) ⟨w.heap.size, 0, none⟩ rfl _ HLD.out ?_)
     refine HT.out.mono ?_
     rintro e w5 ⟨⟨da, dn, dc⟩, qs, rfl, hacc, hqs, hga, ht5⟩
     simp only [Hdr.val] at hacc ⊢
     have hb6 : RowKit.Below w5.heap.size w5 (w5.alloc (.cells #[.slice none 0 0, .slice da dn dc] 112)) := (Below.refl _ _).alloc (Nat.le_refl _) _
     have hr6 : (w5.alloc (.cells #[.slice none 0 0, .slice da dn dc] 112)).heap[w5.heap.size]? = some (.cells #[.slice none 0 0, .slice da dn dc] 112) := heap_alloc_new w5 _
     obtain ⟨w6, hw6⟩ : ∃ w6, w5.alloc (.cells #[.slice none 0 0, .slice da dn dc] 112) = w6 := ⟨_, rfl⟩
     rw [hw6] at hb6 hr6
     have a0 : w6.cell? ⟨w5.heap.size, 0, none⟩ = some (.slice none 0 0) := cell_of_row w6 _ 0 _ _ _ hr6
     have a1 : w6.cell? ⟨w5.heap.size, 1, none⟩ = some (.slice da dn dc) := cell_of_row w6 _ 1 _ _ _ hr6
     have HW6 := Lib.hid hw6
     have hbd := below_drew (Below.refl w6.heap.size w6)
     have H1 := Lib.hid (((hacc.below hb6 (Nat.le_refl _)).below hbd (Nat.le_refl _)).lower HWB.out.size)
     have H2 := Lib.hid hqs
     have H3 := Lib.hid ((hga.below hb6 (Nat.le_refl _)).below hbd (Nat.le_refl _))
     have HX := Lib.hid (((Touch.of_below (L := M.own) HWB.out (Nat.le_refl _)).trans ht5 fun n hn h => h).trans (Touch.of_below (L := M.own) (hb6.trans (hbd.mono hb6.size)) (Nat.le_refl _)) fun n hn h => h)
     clear hw6 hb6 hr6 hbd hacc hqs hga ht5 HT HLD HGB HMB c0 hlk2 hr4 hr5
     go_upto_region 9 with fail
     rw [HW6.out]
     go_region_law (fail)
     all_goals
      go_wp2_with fail
      go_ret3
      exact ⟨fun h => (by rw [HBAD.out] at h; cases h), fun _ h => absurd h HN4.out, fun _ _ => ⟨⟨da, dn, dc⟩, qs, rfl, H1.out, H2.out, H3.out, HX.out⟩, fun _ _ hn => absurd H5.out hn⟩
    ·rw [if_neg h5, decide_eq_false (by omega)] at hlk2
     have HN4 := Lib.hid h4
     have HN5 := Lib.hid h5
     clear h4 h5 EG4 EG5
     go_wp2_with fail
     go_ret3
     exact ⟨fun h => (by rw [HBAD.out] at h; cases h), fun _ h => absurd h HN4.out, fun _ h => absurd h HN5.out, fun _ _ _ => ⟨rfl, HWB.out⟩⟩
end Go.Proofs.YtenkfnhcdfmkaaaGreat
