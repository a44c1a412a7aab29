/-
  The reference's Of: a workload's newest samples of a node, laid in one by one.
-/
import Derived.Test.YtjgbflclhkeibaaGreatRef07
import Derived.Test.YtjgbflclhkeibaaGreatOf
import Derived.Test.YtjgbflclhkeibaaGreatMRefLater
import Derived.Deep.DeepCutAuto
namespace Go.Proofs.YtjgbflclhkeibaaGreat
open Go.Shelf Go.RowKit Go.Lib Go.Sort
set_option linter.unusedVariables false

/-- what lies before the place, and what behind it, by the last one that was looked at -/
theorem newer_prefix {qs : List PEv} {at' : Nat} {ev : Ev} (hs : SortedL newer (qs.map (·.2))) (h0 : 0 < at') (h1 : at' ≤ qs.length) (h : newer ev (qs[at' - 1]'(by omega)).2 = false) : ∀ y ∈ (qs.map (·.2)).take at', newer ev y = false := by
  intro y hy
  obtain ⟨j, hj, rfl⟩ := List.mem_iff_getElem.1 hy
  simp only [List.length_take, List.length_map] at hj
  rw [List.getElem_take, List.getElem_map]
  by_cases hjj : j = at' - 1
  · subst hjj; exact h
  · have hlt : j < at' - 1 := by omega
    have hp := List.pairwise_iff_getElem.1 hs j (at' - 1) (by simp; omega) (by simp; omega) hlt
    simp only [List.getElem_map] at hp
    simp only [newer, decide_eq_false_iff_not] at hp h ⊢
    omega
theorem drop_predO {qs : List PEv} {at' : Nat} {ev : Ev} (h0 : 0 < at') (h1 : at' ≤ qs.length) (h : newer ev (qs[at' - 1]'(by omega)).2 = true) (hk : ∀ y ∈ qs.drop at', newer ev y.2 = true) : ∀ y ∈ qs.drop (at' - 1), newer ev y.2 = true := by
  intro y hy
  rw [List.drop_eq_getElem_cons (by omega), show at' - 1 + 1 = at' by omega] at hy
  rcases List.mem_cons.1 hy with rfl | hy
  · exact h
  · exact hk y hy


theorem owns_made_evO {e : Nat} (W : World) (n : Nat) (hn : W.heap.size = n) : Owns pcells 14 n e (W.alloc (.cells #[] e)) (.slice (some ⟨n, 0, none⟩) 0 0) [] := by
  subst hn
  exact World.ownsRow_made W #[] 0 (Nat.le_refl _) (by decide) rfl
/-- what is laid in the midst: the new row's events live on, each with its dots -/
theorem acc_insertO {B e ed : Nat} {wb w' w3 w4 w5 : World} {vq von v4 v5 : Value} {qs : List PEv} {at' : Nat} {hd : Hdr} {ev : Ev} {lit : Obj} (hB : B ≤ wb.heap.size)
    (h : Acc B e ed wb vq qs) (hb2 : Below wb.heap.size wb w') (hn : Owns pcells 14 wb.heap.size e w' von (qs.take at')) (hb3 : Below w'.heap.size w' w3)
    (hc : Owns Dot.cells 2 w'.heap.size ed w3 hd.val ev.rem) (hg4 : (w3.alloc lit).grownBy w4 von.ownBlock) (hv4 : v4.ownBlock = von.ownBlock ∨ ∀ g, v4.ownBlock = some g → (w3.alloc lit).heap.size ≤ g) (h4 : Owns pcells 14 wb.heap.size e w4 v4 (qs.take at' ++ [(hd, ev)]))
    (h5 : Owns pcells 14 wb.heap.size e w5 v5 (qs.take at' ++ [(hd, ev)] ++ qs.drop at')) (hg5 : w4.grownBy w5 v4.ownBlock) (hv5 : v5.ownBlock = v4.ownBlock ∨ ∀ g, v5.ownBlock = some g → w4.heap.size ≤ g) :
    Acc B e ed w5 v5 (qs.take at' ++ [(hd, ev)] ++ qs.drop at') ∧ Below wb.heap.size wb w5 := by
  have b3 : Below wb.heap.size wb (w3.alloc lit) := (hb2.trans (hb3.mono hb2.size)).alloc (Nat.le_trans hb2.size hb3.size) lit
  have b4 : Below wb.heap.size wb w4 := b3.grown hg4 b3.size fun k hk => (hn.lt k hk).1
  have b5 : Below wb.heap.size wb w5 := b4.grown hg5 b4.size fun k hk => (h4.lt k hk).1
  refine ⟨⟨h5.lower hB, fun q hq => ?_⟩, b5⟩
  have old : q ∈ qs → Owns Dot.cells 2 B ed w5 q.1.val q.2.rem ∧ (q.1.val.ownBlock = none ∨ q.1.val.ownBlock ≠ v5.ownBlock) := fun hq => by
    have h1 := (h.rem q hq).1
    refine ⟨h1.below b5 (Nat.le_refl _), ?_⟩
    cases hx : q.1.val.ownBlock with
    | none => exact .inl rfl
    | some g =>
      refine .inr fun e2 => ?_
      have k1 := (h1.lt g hx).2
      have k2 := (h5.lt g e2.symm).1
      omega
  rcases List.mem_append.1 hq with hq | hq
  · rcases List.mem_append.1 hq with hq | hq
    · exact old (List.mem_of_mem_take hq)
    · obtain rfl : q = (hd, ev) := by simpa using hq
      have n4 : hd.val.ownBlock = none ∨ hd.val.ownBlock ≠ v4.ownBlock := by
        cases hx : hd.val.ownBlock with
        | none => exact .inl rfl
        | some g =>
          refine .inr fun e2 => ?_
          have k1 := hc.lt g hx
          rcases hv4 with hv4 | hv4
          · have k2 := (hn.lt g (by rw [← hv4, ← e2])).2
            omega
          · have k2 := hv4 g e2.symm
            simp at k2
            omega
      have n0 : hd.val.ownBlock = none ∨ hd.val.ownBlock ≠ von.ownBlock := by
        cases hx : hd.val.ownBlock with
        | none => exact .inl rfl
        | some g =>
          refine .inr fun e2 => ?_
          have k1 := hc.lt g hx
          have k2 := (hn.lt g e2.symm).2
          omega
      have o4 : Owns Dot.cells 2 w'.heap.size ed w4 hd.val ev.rem := (hc.below ((Below.refl _ _).alloc (Nat.le_refl _) lit) (Nat.le_refl _)).kept hg4 n0
      refine ⟨(o4.kept hg5 n4).lower (Nat.le_trans hB hb2.size), ?_⟩
      cases hx : hd.val.ownBlock with
      | none => exact .inl rfl
      | some g =>
        refine .inr fun e2 => ?_
        rcases hv5 with hv5 | hv5
        · rcases n4 with n4 | n4
          · have n5 := hx.symm.trans n4
            exact absurd n5 (by simp)
          · exact n4 (by rw [hx, e2, hv5])
        · have k1 := (o4.lt g hx).2
          have k2 := hv5 g e2.symm
          omega
  · exact old (List.mem_of_mem_drop hq)
set_option maxRecDepth 100000 in
set_option maxHeartbeats 8000000 in
theorem refOf_any (oa : Option Addr) (cap : Nat) (ps : List PEv) (work node size : Int) (w : World) (h : EvsAt w (.slice oa ps.length cap) ps) (hl : ps.length ≤ 1000000) (hr : ∀ p ∈ ps, p.2.rem.length ≤ 1000000) :
    Calls Tryz.prog 69 #[.slice oa ps.length cap, .int .i64 work, .int .i64 node, .int .i64 size] w (OfPost ps work node size w) := by
  have HE := Lib.hid h
  have HR := Lib.hid hr
  clear h hr
  go_enter Tryz.func69, Tryz.ntmps69
  go_wp2_with fail
  go_loopg [9, 16] ps.length (fun gk s5 s13 wr => ∃ (i : Nat) (oq : Option Addr) (cq : Nat) (qs : List PEv), s13 = .int .i64 i ∧ s5 = .slice oq qs.length cq ∧ i ≤ ps.length ∧ ps.length - i ≤ gk ∧ qs.length ≤ i ∧ Hid (Acc w.heap.size 74 71 wr (.slice oq qs.length cq) qs) ∧ Hid (stableOf newer (((ps.take i).map (·.2)).filter (isSample work node)) (qs.map (·.2))) ∧ Hid (Below w.heap.size w wr))
  case atStart => exact ⟨0, none, 0, [], rfl, rfl, Nat.zero_le _, Nat.le_refl _, Nat.le_refl _, Acc.nil _ _ _ _, ⟨List.Pairwise.nil, StabL.refl _ _⟩, Below.refl _ _⟩
  case round =>
    obtain ⟨i, oq, cq, qs, rfl, rfl, hi, hg, hqi, HO, HQ, HB⟩ := hrel
    by_cases hlt : i < ps.length
    · have hltz : (i : Int) < (ps.length : Int) := by omega
      have hsl : SlAt pcells wr (.slice oa ps.length cap) ps := HE.out.1.below pcells_len (by decide) HB.out (Nat.le_refl _)
      obtain ⟨b, off, rfl⟩ := slAt_some hsl i hlt
      obtain ⟨ra, rn, rc, ev, hp, c0, c1, c2, c3, c4, c5, c6, c7, c8, c9, c10, c11, c12, c13⟩ := hsl.ev i hlt
      have hmem : (⟨⟨ra, rn, rc⟩, ev⟩ : PEv) ∈ ps := List.mem_of_getElem? hp
      have hrem : SlAt Dot.cells wr (.slice ra rn rc) ev.rem := (HE.out.2 _ hmem).below Dot.cells_len (by decide) HB.out (Nat.le_refl _)
      have hrl : ev.rem.length ≤ 1000000 := HR.out _ hmem
      have htf := take_filter (isSample work node) ps i _ hp
      have HREM := Lib.hid hrem
      have HTF := Lib.hid htf
      clear hsl hp hmem hrem htf
      by_cases hs : isSample work node ev = true
      · have hs' := hs
        simp only [isSample, Bool.and_eq_true, beq_iff_eq] at hs'
        obtain ⟨⟨hk, hw⟩, hn⟩ := hs'
        have hk2 : (ev.kind != 1) = false := by rw [bne_eq_false_iff_eq]; exact hk
        have hw2 : (ev.work != work) = false := by rw [bne_eq_false_iff_eq]; exact hw
        have hn2 : (ev.dot.node != node) = false := by rw [bne_eq_false_iff_eq]; exact hn
        have HS := Lib.hid hs
        clear hs hk hw hn
        go_wp2_with fail
        have hA : ∀ o, (wr.alloc (.cells #[.int .i64 ev.dot.node, .int .i64 ev.dot.seq, .int .i64 ev.time, .int .i64 ev.kind, .int .i64 ev.work, .int .i64 ev.value, .int .i64 ev.pol.mn, .int .i64 ev.pol.mx, .int .i64 ev.pol.goal, .int .i64 ev.pol.slack, .int .i64 ev.pol.up, .int .i64 ev.pol.down, .int .i64 ev.pol.cool, .slice ra rn rc] 74)).cell? ⟨wr.heap.size, o, none⟩ = (#[.int .i64 ev.dot.node, .int .i64 ev.dot.seq, .int .i64 ev.time, .int .i64 ev.kind, .int .i64 ev.work, .int .i64 ev.value, .int .i64 ev.pol.mn, .int .i64 ev.pol.mx, .int .i64 ev.pol.goal, .int .i64 ev.pol.slack, .int .i64 ev.pol.up, .int .i64 ev.pol.down, .int .i64 ev.pol.cool, .slice ra rn rc] : Array Value)[o]? := fun o => by unfold World.cell?; rw [heap_alloc_new]; rfl
        have hbw : Below wr.heap.size wr (wr.alloc (.cells #[.int .i64 ev.dot.node, .int .i64 ev.dot.seq, .int .i64 ev.time, .int .i64 ev.kind, .int .i64 ev.work, .int .i64 ev.value, .int .i64 ev.pol.mn, .int .i64 ev.pol.mx, .int .i64 ev.pol.goal, .int .i64 ev.pol.slack, .int .i64 ev.pol.up, .int .i64 ev.pol.down, .int .i64 ev.pol.cool, .slice ra rn rc] 74)) := (Below.refl _ _).alloc (Nat.le_refl _) _
        have hzb : wr.heap.size < (wr.alloc (.cells #[.int .i64 ev.dot.node, .int .i64 ev.dot.seq, .int .i64 ev.time, .int .i64 ev.kind, .int .i64 ev.work, .int .i64 ev.value, .int .i64 ev.pol.mn, .int .i64 ev.pol.mx, .int .i64 ev.pol.goal, .int .i64 ev.pol.slack, .int .i64 ev.pol.up, .int .i64 ev.pol.down, .int .i64 ev.pol.cool, .slice ra rn rc] 74)).heap.size := by simp
        generalize wr.alloc (.cells #[.int .i64 ev.dot.node, .int .i64 ev.dot.seq, .int .i64 ev.time, .int .i64 ev.kind, .int .i64 ev.work, .int .i64 ev.value, .int .i64 ev.pol.mn, .int .i64 ev.pol.mx, .int .i64 ev.pol.goal, .int .i64 ev.pol.slack, .int .i64 ev.pol.up, .int .i64 ev.pol.down, .int .i64 ev.pol.cool, .slice ra rn rc] 74) = wb at *
        have HREM2 := Lib.hid (HREM.out.below Dot.cells_len (by decide) hbw (Nat.le_refl _))
        have HO2 := Lib.hid (HO.out.below hbw (Nat.le_refl _))
        have HBW := Lib.hid hbw
        clear hbw c0 c1 c2 c3 c4 c5 c6 c7 c8 c9 c10 c11 c12 c13 HREM
        go_loopg [12] qs.length (fun gk2 s12 wr2 => ∃ (at' q : Nat), s12 = .int .i64 at' ∧ at' ≤ qs.length ∧ at' ≤ gk2 ∧ wr2 = wb.drewN q ∧ Hid (∀ y ∈ qs.drop at', newer ev y.2 = true))
        case atStart => exact ⟨qs.length, 0, rfl, Nat.le_refl _, Nat.le_refl _, rfl, by show ∀ y ∈ _, _; simp⟩
        case round =>
          obtain ⟨at', q, rfl, ha, hag, rfl, HD⟩ := hrel
          go_wp2_with fail
          go_cut [52] (fun s52 wx => ∃ q2, wx = wb.drewN q2 ∧ ((s52 = .bool true ∧ ∃ k, at' = k + 1 ∧ ∃ (hk : k < qs.length), Hid (newer ev (qs[k]'hk).2 = true)) ∨ (s52 = .bool false ∧ Hid (∀ y ∈ (qs.map (·.2)).take at', newer ev y = false))))
          case first =>
            cases at' with
            | zero =>
              go_quiet (fail)
              go_wp2_with fail
              go_meet
              exact ⟨q + nq, by first | rfl | exact World.drewN_drewN _ _ _, .inr ⟨rfl, by show ∀ y ∈ _, _; simp⟩⟩
            | succ k =>
              have hk0 : ((k + 1 : Nat) : Int) - 1 = (k : Int) := by omega
              have hk1 : (0 : Int) < ((k + 1 : Nat) : Int) := by omega
              have hkl : k < qs.length := by omega
              have hkz : (k : Int) < (qs.length : Int) := by omega
              have hsl2 := HO2.out.row.at
              obtain ⟨b2, off2, rfl⟩ := slAt_some hsl2 k hkl
              obtain ⟨ra2, rn2, rc2, ev2, hp2, d0, d1, d2, d3, d4, d5, d6, d7, d8, d9, d10, d11, d12, d13⟩ := hsl2.ev k hkl
              have he2 : Hid ((qs[k]'hkl).2 = ev2) := by show _ = _; rw [List.getElem?_eq_getElem hkl] at hp2; rw [Option.some.inj hp2]
              have hb1 := hA 1
              have hb1' : wb.cell? ⟨wr.heap.size, 1, none⟩ = some (.int .i64 ev.dot.seq) := hb1
              clear hb1 hp2 hsl2 hA
              by_cases hgt : ev2.dot.seq < ev.dot.seq
              · go_quiet (fail)
                go_wp2_with fail
                go_meet
                exact ⟨q + nq, by first | rfl | exact World.drewN_drewN _ _ _, .inl ⟨rfl, k, rfl, hkl, by show _ = _; rw [he2.out]; exact decide_eq_true hgt⟩⟩
              · go_quiet (fail)
                go_wp2_with fail
                go_meet
                refine ⟨q + nq, by first | rfl | exact World.drewN_drewN _ _ _, .inr ⟨rfl, ?_⟩⟩
                exact newer_prefix HQ.out.1 (by omega) ha (by simp only [Nat.add_sub_cancel]; rw [he2.out]; exact decide_eq_false (by omega))
          case rest =>
            obtain ⟨q2, rfl, ⟨rfl, k, rfl, hkl, HN⟩ | ⟨rfl, HN⟩⟩ := hcut
            · go_wp2_with fail
              go_roundg k
              case measure => omega
              case rel => exact ⟨k, q2, by first | rfl | (congr 1; omega), by omega, Nat.le_refl _, rfl, drop_predO (at' := k + 1) (by omega) ha HN.out HD.out⟩
            · have hcq : at' ≤ cq := by
                obtain ⟨_, _, hv, hc⟩ := HO2.out.row.at.slice_of
                simp only [Value.slice.injEq] at hv
                omega
              go_wp2_with (at_builtin; go_loud (refine wpList_app pcells 14 pcells_len (by decide) pcells_one _ rfl _ _ 36 rfl wb.heap.size 74 _ 128 Tryz.underlying36 infoEv rfl _ [] rfl ?h1 _ (qs.take at') rfl ?h2 ?h3 ?h4 ?h5 ?_))
              case h1 => exact owns_made_evO _ _ rfl
              case h2 =>
                have hs2 := (HO2.out.take at' ha).row.at.below (B := wb.heap.size) pcells_len (by decide) ((below_drewN wb q2).alloc (Nat.le_refl _) (.cells #[] 74)) (Nat.le_refl _)
                simp [Act.eval]
                exact hs2
              case h3 => simp only [List.length_nil, List.length_take]; omega
              case h4 => simp only [List.length_nil, List.length_take]; omega
              case h5 => simp
              intro v' w' hown hg2 hv2
              have hb2 : Below wb.heap.size wb w' := ((below_drewN wb q2).alloc (Nat.le_refl _) _).grown hg2 (by simp) (fun k hk => by simp [Value.ownBlock] at hk; omega)
              obtain ⟨hcell, hfr⟩ := bcell hb2
              have hA2 : ∀ o, w'.cell? ⟨wr.heap.size, o, none⟩ = (#[.int .i64 ev.dot.node, .int .i64 ev.dot.seq, .int .i64 ev.time, .int .i64 ev.kind, .int .i64 ev.work, .int .i64 ev.value, .int .i64 ev.pol.mn, .int .i64 ev.pol.mx, .int .i64 ev.pol.goal, .int .i64 ev.pol.slack, .int .i64 ev.pol.up, .int .i64 ev.pol.down, .int .i64 ev.pol.cool, .slice ra rn rc] : Array Value)[o]? := fun o => (hcell _ _ hzb).trans (hA o)
              have hln : (qs.take at').length = at' := by rw [List.length_take]; omega
              obtain ⟨on, cn, rfl⟩ := slAt_slice hown.at
              rw [hln] at hown ⊢
              have HOWN := Lib.hid hown
              have HB2 := Lib.hid hb2
              clear hown hg2 hv2 hb2 hcell hfr hA
              go_wp2_with fail
              have hcp := copy_any (⟨ra, rn, rc⟩, ev) w'.drew (HREM2.out.below Dot.cells_len (by decide) (below_drew HB2.out) (Nat.le_refl _)) hrl
              have HCP := Lib.hid hcp
              have hzw := HB2.out.size
              have HOWND := Lib.hid (HOWN.out.below (below_drew (Below.refl w'.heap.size w')) (Nat.le_refl _))
              clear hcp HREM2
              go_region_law (first
                | (go_simp
                   refine HCP.out.mono ?_
                   rintro e w3 ⟨hd, rfl, hown3, hb3⟩
                   have HOWN3 := Lib.hid hown3
                   have HB3 := Lib.hid hb3
                   have hz3 := hb3.size
                   simp only [World.size_drew] at hz3
                   clear hown3 hb3 HCP
                   simp only [pcells, evCells])
                | (refine step_app pcells 14 pcells_len (by decide) pcells_one _ rfl _ _ 36 rfl wb.heap.size 74 _ 128 Tryz.underlying36 infoEv rfl (.slice on at' cn) (qs.take at') rfl ((HOWND.out.below HB3.out (Nat.le_refl _)).below ((Below.refl _ _).alloc (Nat.le_refl _) _) (Nat.le_refl _)) _ [(hd, ev)] rfl (slAt_new (enc := pcells) w3 (pcells (hd, ev)).toArray 74 1 1 (0, 0) [(hd, ev)] rfl rfl (by decide)) (by simp only [List.length_take, List.length_cons, List.length_nil]; omega) (by simp only [List.length_take, List.length_cons, List.length_nil]; omega) (by simp; omega) ?_
                   intro v4 w4 h4 hg4 hv4)
                | (refine step_app pcells 14 pcells_len (by decide) pcells_one _ rfl _ _ 36 rfl wb.heap.size 74 _ 128 Tryz.underlying36 infoEv rfl v4 (qs.take at' ++ [(hd, ev)]) rfl h4 _ (qs.drop at') rfl (by
                     have b3 : Below wb.heap.size wb w4 := ((HB2.out.trans ((below_drew (Below.refl w'.heap.size w')).trans HB3.out |>.mono hzw)).alloc (by omega) _).grown hg4 (by simp; omega) fun k hk => (HOWN.out.lt k hk).1
                     have hs := (HO2.out.row.at.sub pcells_len (by decide) at' qs.length ha (Nat.le_refl _)).below pcells_len (by decide) b3 (Nat.le_refl _)
                     rw [List.take_length] at hs
                     simp [Act.eval]
                     exact hs) (by simp only [List.length_append, List.length_drop, List.length_take, List.length_cons, List.length_nil]; omega) (by simp only [List.length_append, List.length_drop, List.length_take, List.length_cons, List.length_nil]; omega) (by have := hg4.size; simp at this; omega) ?_
                   intro v5 w5 h5 hg5 hv5))
              obtain ⟨hacc, hbb⟩ := acc_insertO (Nat.le_trans HB.out.size (Nat.le_of_lt hzb)) HO2.out HB2.out HOWN.out ((below_drew (Below.refl w'.heap.size w')).trans HB3.out) HOWN3.out hg4 hv4 h4 h5 hg5 hv5
              obtain ⟨o5, c5, rfl⟩ := slAt_slice h5.at
              have HACC := Lib.hid hacc
              have HBB := Lib.hid ((HB.out.trans (HBW.out.mono HB.out.size)).trans (hbb.mono (Nat.le_trans HB.out.size (Nat.le_of_lt hzb))))
              have hst : stableOf newer (((ps.take (i + 1)).map (·.2)).filter (isSample work node)) ((qs.take at' ++ [((hd, ev) : PEv)] ++ qs.drop at').map (·.2)) := by
                have hsi := stable_insert swo_newerE (l := ((ps.take i).map (·.2)).filter (isSample work node)) (l' := qs.map (·.2)) ev at' HQ.out (by
                  intro y hy
                  rw [← List.map_drop] at hy
                  obtain ⟨z, hz, rfl⟩ := List.mem_map.1 hy
                  exact HD.out z hz) HN.out
                have e1 : (qs.take at' ++ [((hd, ev) : PEv)] ++ qs.drop at').map (·.2) = (qs.map (·.2)).take at' ++ [ev] ++ (qs.map (·.2)).drop at' := by simp
                rw [e1, HTF.out, if_pos HS.out]
                exact hsi
              have HST := Lib.hid hst
              have hl5 : (qs.take at' ++ [((hd, ev) : PEv)] ++ qs.drop at').length = qs.length + 1 := by simp only [List.length_append, List.length_drop, List.length_take, List.length_cons, List.length_nil]; omega
              clear hacc hbb hst h4 hg4 hv4 h5 hg5 hv5
              generalize qs.take at' ++ [((hd, ev) : PEv)] ++ qs.drop at' = qs' at *
              go_wp2_with fail
              all_goals
                go_roundg (ps.length - (i + 1))
                case measure => omega
                case rel => exact ⟨i + 1, o5, c5, qs', by go_num, by rw [hl5], by omega, Nat.le_refl _, by omega, HACC, HST, HBB⟩
      · have hs0 : isSample work node ev = false := by simpa using hs
        have HS := Lib.hid hs0
        have hd : ((ev.kind != 1) = true) ∨ ((ev.kind != 1) = false ∧ (ev.work != work) = true) ∨ ((ev.kind != 1) = false ∧ (ev.work != work) = false ∧ (ev.dot.node != node) = true) := by
          unfold isSample at hs0
          simp only [bne, Bool.not_eq_true', Bool.not_eq_false']
          cases h1 : (ev.kind == 1) <;> cases h2 : (ev.work == work) <;> cases h3 : (ev.dot.node == node) <;> simp [h1, h2, h3] at hs0 ⊢
        clear hs hs0
        rcases hd with h1 | ⟨h1, h2⟩ | ⟨h1, h2, h3⟩
        all_goals
          go_wp2_with fail
          go_roundg (ps.length - (i + 1))
          case measure => omega
          case rel => exact ⟨i + 1, oq, cq, qs, by go_num, rfl, by omega, Nat.le_refl _, by omega, HO.out.below ((Below.refl _ _).alloc (Nat.le_refl _) _) (Nat.le_refl _), by show stableOf _ _ _; rw [HTF.out, HS.out]; simpa using HQ.out, HB.out.trans ((Below.refl _ _).alloc HB.out.size _)⟩
    · have hltz : ¬ (i : Int) < (ps.length : Int) := by omega
      obtain rfl : i = ps.length := by omega
      have hqn : qs.map (·.2) = samples (ps.map (·.2)) work node := by
        have := HQ.out
        rw [List.take_length] at this
        exact stSort_eq swo_newerE this
      have hcap : qs.length ≤ cq := by
        obtain ⟨_, _, hv, hc⟩ := HO.out.row.at.slice_of
        simp only [Value.slice.injEq] at hv
        omega
      have hcut : max 0 (min size (qs.length : Int)) = ((cutN size qs.length : Nat) : Int) := by
        rw [cutN_cast]
        unfold within
        split
        · omega
        · split <;> omega
      have hcle := cutN_le size qs.length
      have hres : OfPost ps work node size w (.returned (.slice oq (cutN size qs.length) cq)) wr := by
        refine ⟨_, qs.take (cutN size qs.length), rfl, by rw [List.length_take]; omega, ?_, ?_, HB.out⟩
        · rw [List.map_take, hqn]; unfold winOf; rw [← hqn, List.length_map]
        · exact HO.out.take _ hcle
      have HRES := Lib.hid hres
      clear hres
      go_wp2_with fail
      go_ret
      exact HRES.out
end Go.Proofs.YtjgbflclhkeibaaGreat
