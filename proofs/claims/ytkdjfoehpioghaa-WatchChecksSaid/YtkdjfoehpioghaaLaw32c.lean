/-
  The law WatchChecks walked.
-/
import Derived.Test.YtkdjfoehpioghaaAlive32
import Derived.Test.YtkdjfoehpioghaaGreatW
import Derived.Test.YtkdjfoehpioghaaBuild2
import Derived.Test.YtkdjfoehpioghaaRefCheckW
namespace Go.Proofs.Ytkdjfoehpioghaa
open Go.Shelf Go.RowKit Go.Lib Go.Sort
set_option linter.unusedVariables false
set_option linter.unusedSimpArgs false
theorem same_nth {v v' : WV} (h : SameV v v') (i : Nat) : (v'.nodes[i]?).map (fun n => (n.runs, n.inc, n.s)) = (v.nodes[i]?).map (fun n => (n.runs, n.inc, n.s)) := by
  rw [← List.getElem?_map, ← List.getElem?_map, h.2.2.2]
theorem forgotB_same {a a' b b' : WV} (ha : SameV a a') (hb : SameV b b') (i : Nat) : forgotB a' b' i = forgotB a b i := by
  have h1 := same_nth ha i
  have h2 := same_nth hb i
  unfold forgotB
  cases e1 : a.nodes[i]? with
  | none => rw [e1] at h1; rw [Option.map_eq_none_iff.1 h1]
  | some m =>
    rw [e1] at h1
    obtain ⟨m', e1', e3⟩ := Option.map_eq_some_iff.1 h1
    rw [e1']
    simp only [Prod.mk.injEq] at e3
    cases e2 : b.nodes[i]? with
    | none => rw [e2] at h2; rw [Option.map_eq_none_iff.1 h2]
    | some n =>
      rw [e2] at h2
      obtain ⟨n', e2', e4⟩ := Option.map_eq_some_iff.1 h2
      rw [e2']
      simp only [Prod.mk.injEq] at e4
      simp only [e3.1, e3.2.2, e4.1, e4.2.2]
theorem fellB_same {a a' b b' : WV} (ha : SameV a a') (hb : SameV b b') (i : Nat) : fellB a' b' i = fellB a b i := by
  have h1 := same_nth ha i
  have h2 := same_nth hb i
  unfold fellB
  cases e1 : a.nodes[i]? with
  | none => rw [e1] at h1; rw [Option.map_eq_none_iff.1 h1]
  | some m =>
    rw [e1] at h1
    obtain ⟨m', e1', e3⟩ := Option.map_eq_some_iff.1 h1
    rw [e1']
    simp only [Prod.mk.injEq] at e3
    cases e2 : b.nodes[i]? with
    | none => rw [e2] at h2; rw [Option.map_eq_none_iff.1 h2]
    | some n =>
      rw [e2] at h2
      obtain ⟨n', e2', e4⟩ := Option.map_eq_some_iff.1 h2
      rw [e2']
      simp only [Prod.mk.injEq] at e4
      simp only [e3.1, e3.2.1, e4.1, e4.2.1]
theorem checkL_same {a a' b b' : WV} (ha : SameV a a') (hb : SameV b b') : checkL a' b' = checkL a b := by
  have h1 : rule1 a' b' = rule1 a b := by
    funext r i
    unfold rule1
    rw [forgotB_same ha hb, fellB_same ha hb]
  have h2 : rule2 a' b' = rule2 a b := by
    funext r i
    unfold rule2 jumpedB movedB
    rw [ha.1, ha.2.1, hb.1, hb.2.1]
  have h3 : rule3 b' = rule3 b := by
    funext r i
    unfold rule3
    rw [hb.2.2.1]
  unfold checkL
  rw [h1, h2, h3]
theorem checkL_len (a b : WV) : (checkL a b).length ≤ 1000 := by
  have h1 := overL_len [(1, 0), (2, 1)] (rule1 a b) 8
  have h2 := overL_len [(3, 0), (4, 1)] (rule2 a b) 8
  have h3 := overL_len [(5, 0)] (rule3 b) 1
  unfold checkL
  simp only [List.length_append]
  simp only [List.length_cons, List.length_nil] at h1 h2 h3
  omega
/-- the same view, its sets in memory -/
def ViewAt (v : WV) (x : Value) (w : World) : Prop := ∃ v' : WV, x = .agg v'.cells.toArray ∧ v'.Ok ∧ SameV v v' ∧ SetsIn w v'
theorem viewAt_lasts (v : WV) : Lasts (ViewAt v) := fun x w w' hb h => by
  obtain ⟨v', h1, h2, h3, h4⟩ := h
  exact ⟨v', h1, h2, h3, h4.below hb⟩
/-- a list of breaks in memory -/
def BreaksAt (l : List Dot) (x : Value) (w : World) : Prop := ∃ o c, x = .slice o l.length c ∧ SlAt Dot.cells w (.slice o l.length c) l
theorem breaksAt_lasts (l : List Dot) : Lasts (BreaksAt l) := fun x w w' hb h => by
  obtain ⟨o, c, h1, h2⟩ := h
  exact ⟨o, c, h1, h2.below Dot.cells_len (by decide) hb (Nat.le_refl _)⟩
theorem owns_breaksAt {base e : Nat} {w : World} {v : Value} {l : List Dot} (h : Owns Dot.cells 2 base e w v l) : BreaksAt l v w := by
  obtain ⟨o, c, hv⟩ := slAt_slice h.at
  rw [hv] at h ⊢
  exact ⟨o, c, rfl, h.at⟩
set_option maxRecDepth 100000 in
set_option maxHeartbeats 8000000 in
theorem lawChecks (a b : WV) (ha : a.Ok) (hb : b.Ok) (fa : FencesOk a) (fb : FencesOk b) (w : World) (sa : ∀ n ∈ a.nodes, SlAt Dot.cells w n.hd.val n.s.more) (sb : ∀ n ∈ b.nodes, SlAt Dot.cells w n.hd.val n.s.more) :
    Calls Try.prog 3 #[.agg a.cells.toArray, .agg b.cells.toArray] w fun e w' => e = .returned (.bool true) ∧ Below w.heap.size w w' := by
  have ga : HdOk a := fun n hn => by
    obtain ⟨_, _, hv, _⟩ := (sa n hn).slice_of
    simp only [Hdr.val, Value.slice.injEq] at hv
    exact hv.2.1
  have gb : HdOk b := fun n hn => by
    obtain ⟨_, _, hv, _⟩ := (sb n hn).slice_of
    simp only [Hdr.val, Value.slice.injEq] at hv
    exact hv.2.1
  obtain ⟨r0, r1, hb2, hs2⟩ := alloc2 w (.cells a.cells.toArray 30) (.cells b.cells.toArray 30)
  have szA : a.cells.toArray.size = 105 := by rw [List.size_toArray]; exact WV.cells_len ha
  have szB : b.cells.toArray.size = 105 := by rw [List.size_toArray]; exact WV.cells_len hb
  have hpair : pairArr a b = a.cells.toArray ++ b.cells.toArray := by unfold pairArr; rw [List.append_toArray]
  have hgr := fun (blk : Nat) (W : World) h => great_any a b ha hb ga gb blk W h
  have hlA := fun (W : World) (h : Below ((w.alloc (.cells a.cells.toArray 30)).alloc (.cells b.cells.toArray 30)).heap.size ((w.alloc (.cells a.cells.toArray 30)).alloc (.cells b.cells.toArray 30)) W) => view_load (W := W) ha ((h.block _ (by omega)).trans r0)
  have hlB := fun (W : World) (h : Below ((w.alloc (.cells a.cells.toArray 30)).alloc (.cells b.cells.toArray 30)).heap.size ((w.alloc (.cells a.cells.toArray 30)).alloc (.cells b.cells.toArray 30)) W) => view_load (W := W) hb ((h.block _ (by omega)).trans r1)
  obtain ⟨w2, hw2⟩ : ∃ w2, (w.alloc (.cells a.cells.toArray 30)).alloc (.cells b.cells.toArray 30) = w2 := ⟨_, rfl⟩
  have HRC := Lib.hid (fun (a' b' : WV) (h1 : a'.Ok) (h2 : b'.Ok) (h3 : FencesOk a') (h4 : FencesOk b') W h5 h6 => check_any a' b' h1 h2 h3 h4 W h5 h6)
  have HRR := Lib.hid (fun W h5 h6 => refCheck_any a b ha hb fa fb W h5 h6)
  have HTA := Lib.hid (fun W h => to_any a ha W h)
  have HTB := Lib.hid (fun W h => to_any b hb W h)
  simp only [hw2] at hb2 hs2 hlA hlB
  have HLA := Lib.hid hlA
  have HLB := Lib.hid hlB
  have HGR := Lib.hid hgr
  have HB2 := Lib.hid hb2
  have HA := Lib.hid ha
  have HBO := Lib.hid hb
  have FA := Lib.hid fa
  have FB := Lib.hid fb
  have SA := Lib.hid sa
  have SB := Lib.hid sb
  have HW2 := Lib.hid hw2
  have HP := Lib.hid hpair
  clear hlA hlB hgr hb2 ha hb fa fb sa sb ga gb r0 r1 hw2 hpair
  generalize hcA : a.cells.toArray = cA at *
  generalize hcB : b.cells.toArray = cB at *
  go_enter Try.func3, Try.ntmps3
  go_wp2_with fail
  rw [HW2.out]
  refine (alive32_any w2).mono ?_
  rintro _ w3 ⟨rfl, hb3⟩
  have hb23 : Below w2.heap.size w2 w3 := hb3
  have lA3 := HLA.out w3 hb23
  have lB3 := HLB.out w3 hb23
  obtain ⟨z0, hz0⟩ : ∃ z, (zeroValue 30).run Try.prog w3 = .ok z w3 := ⟨.agg Try.zeroCells30, by kernel_rfl⟩
  have hPR := HP.out
  go_wp2_with (first | (refine wpList_loadAgg _ rfl 30 _ rfl 105 (by kernel_rfl) (by kernel_rfl) ⟨w.heap.size, 0, none⟩ rfl cA lA3 ?_) | (refine wpList_loadAgg _ rfl 30 _ rfl 105 (by kernel_rfl) (by kernel_rfl) ⟨w.heap.size + 1, 0, none⟩ rfl cB lB3 ?_) | (refine wpList_build2 _ rfl 50 30 (.tmp 7) (.tmp 8) rfl 105 (by decide) (by decide) Try.underlying50 (by kernel_rfl) z0 hz0 cA cB rfl rfl szA szB ?_))
  have hal := heap_alloc_new w3 (.cells (cA ++ cB) 30)
  rw [← hPR] at hal ⊢
  refine (HGR.out w3.heap.size _ hal).mono ?_
  rintro _ w4 ⟨g, rfl, hg, hb4⟩
  have hb24 : Below w2.heap.size w2 w4 := ((hb23.alloc hb23.size _).trans (hb4.mono (by rw [World.size_alloc]; exact Nat.le_succ_of_le hb23.size)))
  have HG := Lib.hid hg
  have HB24 := Lib.hid hb24
  clear hal hb4 hb23 hb3 lA3 lB3 hz0 hPR hg hb24 HGR
  cases g with
  | true =>
    go_wp2_with fail
    go_ret
    exact ⟨rfl, HB2.out.trans (HB24.out.mono HB2.out.size)⟩
  | false =>
    obtain ⟨hga, hgb⟩ := HG.out rfl
    have sIA : ∀ W, Below w2.heap.size w2 W → SetsIn W a := fun W hW n hn => by
      obtain ⟨j, hj, he⟩ := List.mem_iff_getElem.1 hn
      have hl := hga j n (by have := HA.out.nodes; omega) (by rw [List.getElem?_eq_getElem hj, he])
      exact ⟨(SA.out n hn).below Dot.cells_len (by decide) (HB2.out.trans (hW.mono HB2.out.size)) (Nat.le_refl _), by omega⟩
    have sIB : ∀ W, Below w2.heap.size w2 W → SetsIn W b := fun W hW n hn => by
      obtain ⟨j, hj, he⟩ := List.mem_iff_getElem.1 hn
      have hl := hgb j n (by have := HBO.out.nodes; omega) (by rw [List.getElem?_eq_getElem hj, he])
      exact ⟨(SB.out n hn).below Dot.cells_len (by decide) (HB2.out.trans (hW.mono HB2.out.size)) (Nat.le_refl _), by omega⟩
    go_wp2_with fail
    refine tell_region (by kernel_rfl) [(11, fun v _ => v = .agg cA), (12, ViewAt a), (13, fun v _ => v = .agg cB), (14, ViewAt b), (15, BreaksAt (checkL a b)), (16, BreaksAt (checkL a b)), (17, fun v _ => v = .agg cA), (18, fun v _ => v = .agg cB), (19, BreaksAt (checkL a b)), (20, fun v _ => v = .bool true), (4, fun v _ => v = .bool true)] rfl (by show ([11, 12, 13, 14, 15, 16, 17, 18, 19, 20, 4] : List Nat).Nodup; decide) (by show ∀ d ∈ ([11, 12, 13, 14, 15, 16, 17, 18, 19, 20, 4] : List Nat), d < 21; decide) (by kernel_rfl) ?hmono ?hstep ?hend
    case hmono =>
      intro p hp
      simp only [List.mem_cons, List.not_mem_nil, or_false] at hp
      rcases hp with rfl | rfl | rfl | rfl | rfl | rfl | rfl | rfl | rfl | rfl | rfl
      · exact lasts_pure _
      · exact viewAt_lasts _
      · exact lasts_pure _
      · exact viewAt_lasts _
      · exact breaksAt_lasts _
      · exact breaksAt_lasts _
      · exact lasts_pure _
      · exact lasts_pure _
      · exact breaksAt_lasts _
      · exact lasts_pure _
      · exact lasts_pure _
    case hstep =>
      intro i hi r w' hag hbel hn
      have hbw : Below w2.heap.size w2 w' := HB24.out.trans (hbel.mono HB24.out.size)
      have s2 : r.eval (.tmp 2) = .pointer (some ⟨w.heap.size, 0, none⟩) := (hag.out 2 (by simp)).trans rfl
      have s3 : r.eval (.tmp 3) = .pointer (some ⟨w.heap.size + 1, 0, none⟩) := (hag.out 3 (by simp)).trans rfl
      match i, hi with
      | 0, _ => exact leaves_loadAgg rfl rfl rfl 30 (.tmp 2) rfl 105 (by kernel_rfl) (by kernel_rfl) _ s2 cA (HLA.out _ hbw) rfl
      | 1, _ =>
        have n0 : r.eval (.tmp 11) = .agg cA := hn 0 (by simp) ⟨_, rfl, ⟨0, .data⟩, by simp, rfl, rfl⟩
        exact leaves_call (f := 9) (args := #[.agg cA]) rfl rfl rfl (by have ef : r.eval (.func 9) = .func (.func 9) #[] #[] := rfl; generalize r.eval = ρ at ef n0 ⊢; go_simp) (HTA.out w' (sIA _ hbw)) (fun e w2 ⟨v', h1, h2, h3, h4, h5⟩ => ⟨_, h1, h5, v', rfl, h2, h3, h4⟩)
      | 2, _ => exact leaves_loadAgg rfl rfl rfl 30 (.tmp 3) rfl 105 (by kernel_rfl) (by kernel_rfl) _ s3 cB (HLB.out _ hbw) rfl
      | 3, _ =>
        have n0 : r.eval (.tmp 13) = .agg cB := hn 2 (by simp) ⟨_, rfl, ⟨2, .data⟩, by simp, rfl, rfl⟩
        exact leaves_call (f := 9) (args := #[.agg cB]) rfl rfl rfl (by have ef : r.eval (.func 9) = .func (.func 9) #[] #[] := rfl; generalize r.eval = ρ at ef n0 ⊢; go_simp) (HTB.out w' (sIB _ hbw)) (fun e w2 ⟨v', h1, h2, h3, h4, h5⟩ => ⟨_, h1, h5, v', rfl, h2, h3, h4⟩)
      | 4, _ =>
        obtain ⟨va, n0, oka, sma, ina⟩ : ViewAt a (r.eval (.tmp 12)) w' := hn 1 (by simp) ⟨_, rfl, ⟨1, .data⟩, by simp, rfl, rfl⟩
        obtain ⟨vb, n1, okb, smb, inb⟩ : ViewAt b (r.eval (.tmp 14)) w' := hn 3 (by simp) ⟨_, rfl, ⟨3, .data⟩, by simp, rfl, rfl⟩
        have hck := HRC.out va vb oka okb (fun x hx => FA.out x (by rw [← sma.2.1]; exact hx)) (fun x hx => FB.out x (by rw [← smb.2.1]; exact hx)) w' ina inb
        rw [checkL_same sma smb] at hck
        refine leaves_call (f := 8) (args := #[.agg va.cells.toArray, .agg vb.cells.toArray]) rfl rfl rfl (by have ef : r.eval (.func 8) = .func (.func 8) #[] #[] := rfl; clear hck; generalize va.cells.toArray = ca at *; generalize vb.cells.toArray = cb at *; generalize r.eval = ρ at ef n0 n1 ⊢; go_simp) hck ?_
        rintro e w5 ⟨o, n, c, rfl, ho, hb⟩
        exact ⟨_, rfl, hb, owns_breaksAt ho⟩
      | 5, _ =>
        obtain ⟨o, c, n0, hs⟩ : BreaksAt (checkL a b) (r.eval (.tmp 15)) w' := hn 4 (by simp) ⟨_, rfl, ⟨4, .data⟩, by simp, rfl, rfl⟩
        refine leaves_call (f := 7) (args := #[.slice o (checkL a b).length c]) rfl rfl rfl (by have ef : r.eval (.func 7) = .func (.func 7) #[] #[] := rfl; generalize (checkL a b).length = q at *; generalize r.eval = ρ at ef n0 ⊢; go_simp) (breaks_any o c (checkL a b) w' hs (checkL_len a b)) ?_
        rintro e w5 ⟨o, n, c, rfl, ho, hb⟩
        exact ⟨_, rfl, hb, owns_breaksAt ho⟩
      | 6, _ => exact leaves_loadAgg rfl rfl rfl 30 (.tmp 2) rfl 105 (by kernel_rfl) (by kernel_rfl) _ s2 cA (HLA.out _ hbw) rfl
      | 7, _ => exact leaves_loadAgg rfl rfl rfl 30 (.tmp 3) rfl 105 (by kernel_rfl) (by kernel_rfl) _ s3 cB (HLB.out _ hbw) rfl
      | 8, _ =>
        have n0 : r.eval (.tmp 17) = .agg cA := hn 6 (by simp) ⟨_, rfl, ⟨6, .data⟩, by simp, rfl, rfl⟩
        have n1 : r.eval (.tmp 18) = .agg cB := hn 7 (by simp) ⟨_, rfl, ⟨7, .data⟩, by simp, rfl, rfl⟩
        refine leaves_call (f := 10) (args := #[.agg cA, .agg cB]) rfl rfl rfl (by have ef : r.eval (.func 10) = .func (.func 10) #[] #[] := rfl; generalize r.eval = ρ at ef n0 n1 ⊢; go_simp) (HRR.out w' (sIA _ hbw) (sIB _ hbw)) ?_
        rintro e w5 ⟨o, n, c, rfl, ho, hb⟩
        exact ⟨_, rfl, hb, owns_breaksAt ho⟩
      | 9, _ =>
        obtain ⟨o, c, n0, hs⟩ : BreaksAt (checkL a b) (r.eval (.tmp 16)) w' := hn 5 (by simp) ⟨_, rfl, ⟨5, .data⟩, by simp, rfl, rfl⟩
        obtain ⟨o', c', n1, hs'⟩ : BreaksAt (checkL a b) (r.eval (.tmp 19)) w' := hn 8 (by simp) ⟨_, rfl, ⟨8, .data⟩, by simp, rfl, rfl⟩
        refine leaves_call (f := 6) (args := #[.slice o (checkL a b).length c, .slice o' (checkL a b).length c']) rfl rfl rfl (by have ef : r.eval (.func 6) = .func (.func 6) #[] #[] := rfl; generalize (checkL a b).length = q at *; generalize r.eval = ρ at ef n0 n1 ⊢; go_simp) (sameB_any o o' c c' (checkL a b) w' hs hs' (checkL_len a b)) ?_
        rintro e w5 ⟨rfl, hb⟩
        exact ⟨_, rfl, hb.below, rfl⟩
      | 10, _ =>
        have n0 : r.eval (.tmp 20) = .bool true := hn 9 (by simp) ⟨_, rfl, ⟨9, .data⟩, by simp, rfl, rfl⟩
        exact leaves_val rfl rfl rfl (v := .bool true) (by generalize r.eval = ρ at n0 ⊢; go_simp) (Below.refl _ _) rfl
    case hend =>
      intro r w' hag hbel hall
      have v4 : r.eval (.tmp 4) = .bool true := hall 10 (by simp)
      have hfin := Ag.final _ (by show ∀ d ∈ ([11, 12, 13, 14, 15, 16, 17, 18, 19, 20, 4] : List Nat), d < 21; decide) hag
      simp only [List.map, List.foldl, v4] at hfin
      have HB5 := Lib.hid (HB2.out.trans ((HB24.out.trans (hbel.mono HB24.out.size)).mono HB2.out.size))
      generalize r.eval (.tmp 11) = y11 at hfin
      generalize r.eval (.tmp 12) = y12 at hfin
      generalize r.eval (.tmp 13) = y13 at hfin
      generalize r.eval (.tmp 14) = y14 at hfin
      generalize r.eval (.tmp 15) = y15 at hfin
      generalize r.eval (.tmp 16) = y16 at hfin
      generalize r.eval (.tmp 17) = y17 at hfin
      generalize r.eval (.tmp 18) = y18 at hfin
      generalize r.eval (.tmp 19) = y19 at hfin
      generalize r.eval (.tmp 20) = y20 at hfin
      subst hfin
      clear hall hag v4
      simp only [Act.put, List.setIfInBounds_toArray, List.set_cons_succ, List.set_cons_zero]
      go_wp2_with fail
      go_ret
      exact ⟨rfl, HB5.out⟩
theorem lawChecksA (a b : WV) (w : World) (ha : a.Ok) (fa : FencesOk a) (sa : ∀ n ∈ a.nodes, SlAt Dot.cells w n.hd.val n.s.more) (hb : b.Ok) (fb : FencesOk b) (sb : ∀ n ∈ b.nodes, SlAt Dot.cells w n.hd.val n.s.more) :
    Calls Try.prog 3 #[.agg a.cells.toArray, .agg b.cells.toArray] w fun e w' => e = .returned (.bool true) ∧ Below w.heap.size w w' := lawChecks a b ha hb fa fb w sa sb
end Go.Proofs.Ytkdjfoehpioghaa
