/-
  The reference's Works: the workloads that have a policy, in order, laid in one by one. 
-/
import Derived.Test.YtflijljekbihfaaAcc
import Derived.Test.YtflijljekbihfaaCmp
import Derived.Test.YtflijljekbihfaaRegInv
import Derived.Test.YtflijljekbihfaaSub
import Derived.Test.YtflijljekbihfaaWorksP
import Derived.Test.YtflijljekbihfaaTake
import Derived.Deep.DeepCutAuto
import Derived.Deep.QuietTactic
import Derived.BigQuiet
namespace Go.Proofs.Ytflijljekbihfaa
open Go.Shelf Go.RowKit Go.Lib Go.Sort
set_option linter.unusedVariables false
def icells (v : Int) : List Value := [.int .i64 v]
theorem icells_len (v : Int) : (icells v).length = 1 := rfl
theorem icells_one : ∀ (v : Int), ∀ u ∈ icells v, u.oneCell' = true := fun v u hu => by
  obtain rfl : u = .int .i64 v := by simpa [icells] using hu
  rfl
theorem infoInt : (Try.prog.info? 3).map (fun i => (i.zero, i.size, i.bytes)) = some (some (.int .i64 0), 1, 8) := by kernel_rfl
/-- what Works are -/
structure IsWorks (evs : List Ev) (l : List Int) : Prop where
  rises : Rises l
  mem : ∀ x, x ∈ l ↔ ∃ e ∈ evs, e.kind = 2 ∧ e.work = x
theorem IsWorks.eq {evs : List Ev} {l l' : List Int} (h : IsWorks evs l) (h' : IsWorks evs l') : l = l' := rises_eq h.rises h'.rises fun x => (h.mem x).trans (h'.mem x).symm
theorem IsWorks.none : IsWorks [] [] := ⟨List.Pairwise.nil, fun x => by simp⟩
theorem IsWorks.skip {evs : List Ev} {l : List Int} {e : Ev} (h : IsWorks evs l) (hk : e.kind ≠ 2 ∨ e.work ∈ l) : IsWorks (evs ++ [e]) l := by
  refine ⟨h.rises, fun x => ?_⟩
  rw [h.mem x]
  constructor
  · rintro ⟨a, ha, h1, h2⟩
    exact ⟨a, List.mem_append_left _ ha, h1, h2⟩
  · rintro ⟨a, ha, h1, h2⟩
    rcases List.mem_append.1 ha with ha | ha
    · exact ⟨a, ha, h1, h2⟩
    · obtain rfl : a = e := by simpa using ha
      rcases hk with hk | hk
      · exact absurd h1 hk
      · exact (h.mem x).1 (by rw [← h2]; exact hk)
theorem IsWorks.more {evs : List Ev} {l : List Int} {e : Ev} {n : Nat} (h : IsWorks evs l) (hk : e.kind = 2) (h1 : ∀ y ∈ l.take n, y < e.work) (h2 : ∀ y ∈ l.drop n, e.work < y) : IsWorks (evs ++ [e]) (l.take n ++ [e.work] ++ l.drop n) := by
  refine ⟨rises_insert h.rises h1 h2, fun x => ?_⟩
  rw [mem_insert]
  constructor
  · rintro (rfl | hx)
    · exact ⟨e, by simp, hk, rfl⟩
    · obtain ⟨a, ha, h3, h4⟩ := (h.mem x).1 hx
      exact ⟨a, List.mem_append_left _ ha, h3, h4⟩
  · rintro ⟨a, ha, h3, h4⟩
    rcases List.mem_append.1 ha with ha | ha
    · exact .inr ((h.mem x).2 ⟨a, ha, h3, h4⟩)
    · obtain rfl : a = e := by simpa using ha
      exact .inl h4.symm

theorem rises_behind {l : List Int} {n : Nat} {x : Int} (h : Rises l) (hx : ∀ y, l[n]? = some y → x < y) : ∀ y ∈ l.drop n, x < y := by
  intro y hy
  by_cases hn : n < l.length
  · rw [List.drop_eq_getElem_cons hn] at hy
    have h0 := hx _ (List.getElem?_eq_getElem hn)
    rcases List.mem_cons.1 hy with rfl | hy
    · exact h0
    · obtain ⟨j, hj, rfl⟩ := List.mem_iff_getElem.1 hy
      rw [List.getElem_drop]
      have := List.pairwise_iff_getElem.1 h n (n + 1 + j) hn (by simp at hj; omega) (by omega)
      omega
  · rw [List.drop_eq_nil_of_le (by omega)] at hy; cases hy
theorem slAt_slice' {α : Type} {enc : α → List Value} {w : World} {v : Value} {l : List α} (h : SlAt enc w v l) : ∃ oa cap, v = .slice oa l.length cap := by
  obtain ⟨oa, cap, hv, _⟩ := h.slice_of
  exact ⟨oa, cap, hv⟩
theorem works_le {l : List Int} {n : Nat} {x : Int} (h : ∀ y ∈ l.take n, y ≤ x) (hn : n < l.length) (hx : l[n]'hn ≤ x) : ∀ y ∈ l.take (n + 1), y ≤ x := by
  intro y hy
  rw [List.take_succ_eq_append_getElem hn] at hy
  rcases List.mem_append.1 hy with hy | hy
  · exact h y hy
  · obtain rfl : y = l[n]'hn := by simpa using hy
    exact hx
theorem works_is {l : List Int} {n : Nat} {x : Int} {is is' : Bool} (h : is = true ↔ x ∈ l.take n) (hn : n < l.length) (e : is' = (is || l[n]'hn == x)) : is' = true ↔ x ∈ l.take (n + 1) := by
  subst e
  rw [List.take_succ_eq_append_getElem hn, List.mem_append, ← h]
  simp only [Bool.or_eq_true, beq_iff_eq, List.mem_singleton]
  constructor
  · rintro (h | h)
    · exact .inl h
    · exact .inr h.symm
  · rintro (h | h)
    · exact .inl h
    · exact .inr h.symm
theorem works_lt {l : List Int} {n : Nat} {x : Int} (h : ∀ y ∈ l.take n, y ≤ x) (hi : false = true ↔ x ∈ l.take n) : ∀ y ∈ l.take n, y < x := by
  intro y hy
  have h1 := h y hy
  have h2 : y ≠ x := fun e => by subst e; exact absurd (hi.2 hy) (by simp)
  omega
theorem owns_made_int {e : Nat} (W : World) (n : Nat) (hn : W.heap.size = n) : Owns icells 1 n e (W.alloc (.cells #[] e)) (.slice (some ⟨n, 0, none⟩) 0 0) [] := by
  subst hn
  exact World.ownsRow_made W #[] 0 (Nat.le_refl _) (by decide) rfl
set_option maxRecDepth 100000 in
set_option maxHeartbeats 8000000 in
theorem refWorks_any (oa : Option Addr) (cap : Nat) (ps : List PEv) (w : World) (h : EvsAt w (.slice oa ps.length cap) ps) (hl : ps.length ≤ 1000000) :
    Calls Try.prog 14 #[.slice oa ps.length cap] w fun e w' => ∃ oq cq l, e = .returned (.slice oq l.length cq) ∧ IsWorks (ps.map (·.2)) l ∧ l.length ≤ ps.length ∧ SlAt icells w' (.slice oq l.length cq) l ∧ Below w.heap.size w w' := by
  have HE := Lib.hid h
  clear h
  go_enter Try.func14, Try.ntmps14
  go_wp2_with fail
  go_loopg [3, 11] ps.length (fun gk s3 s11 wr => ∃ (i : Nat) (oq : Option Addr) (cq : Nat) (l : List Int), s11 = .int .i64 i ∧ s3 = .slice oq l.length cq ∧ i ≤ ps.length ∧ ps.length - i ≤ gk ∧ l.length ≤ i ∧ Hid (Owns icells 1 w.heap.size 3 wr (.slice oq l.length cq) l) ∧ Hid (IsWorks ((ps.take i).map (·.2)) l) ∧ Hid (Below w.heap.size w wr))
  case atStart => exact ⟨0, none, 0, [], rfl, rfl, Nat.zero_le _, Nat.le_refl _, Nat.le_refl _, Owns.nil _ _ _ _ _, by show IsWorks _ _; exact IsWorks.none, Below.refl _ _⟩
  case round =>
    obtain ⟨i, oq, cq, l, rfl, rfl, hi, hg, hli, HO, HQ, HB⟩ := hrel
    by_cases hlt : i < ps.length
    · have hltz : (i : Int) < (ps.length : Int) := by omega
      have hsl : SlAt pcells wr (.slice oa ps.length cap) ps := HE.out.1.below pcells_len (by decide) HB.out (Nat.le_refl _)
      obtain ⟨b, off, rfl⟩ := hsl.plain pcells_len (by decide) (by intro e; rw [e] at hlt; exact absurd hlt (by simp))
      obtain ⟨ra, rn, rc, ev, hp, c0, c1, c2, c3, c4, c5, c6, c7, c8, c9, c10, c11, c12, c13⟩ := hsl.ev i hlt
      have htk : (ps.take (i + 1)).map (·.2) = (ps.take i).map (·.2) ++ [ev] := by
        rw [List.take_succ_eq_append_getElem hlt, (List.getElem?_eq_some_iff.1 hp).2, List.map_append]; rfl
      have HTK := Lib.hid htk
      clear hsl hp htk
      by_cases hk : (ev.kind != 2) = true
      · have hne : Hid (ev.kind ≠ 2) := by show _ ≠ _; simpa using hk
        go_wp2_with fail
        go_roundg (ps.length - (i + 1))
        case measure => omega
        case rel => exact ⟨i + 1, oq, cq, l, by go_num, rfl, by omega, Nat.le_refl _, by omega, HO.out.below ((Below.refl _ _).alloc (Nat.le_refl _) _) (Nat.le_refl _), by show IsWorks _ _; rw [HTK.out]; exact HQ.out.skip (.inl hne.out), HB.out.trans ((Below.refl _ _).alloc HB.out.size _)⟩
      · have hk' : (ev.kind != 2) = false := by simpa using hk
        have hke : Hid (ev.kind = 2) := by show _ = _; simpa using hk
        clear hk
        go_wp2_with fail
        have hA : ∀ o, (wr.alloc (.cells #[.int .i64 ev.dot.node, .int .i64 ev.dot.seq, .int .i64 ev.time, .int .i64 ev.kind, .int .i64 ev.work, .int .i64 ev.value, .int .i64 ev.pol.mn, .int .i64 ev.pol.mx, .int .i64 ev.pol.goal, .int .i64 ev.pol.slack, .int .i64 ev.pol.up, .int .i64 ev.pol.down, .int .i64 ev.pol.cool, .slice ra rn rc] 34)).cell? ⟨wr.heap.size, o, none⟩ = (#[.int .i64 ev.dot.node, .int .i64 ev.dot.seq, .int .i64 ev.time, .int .i64 ev.kind, .int .i64 ev.work, .int .i64 ev.value, .int .i64 ev.pol.mn, .int .i64 ev.pol.mx, .int .i64 ev.pol.goal, .int .i64 ev.pol.slack, .int .i64 ev.pol.up, .int .i64 ev.pol.down, .int .i64 ev.pol.cool, .slice ra rn rc] : Array Value)[o]? := fun o => by unfold World.cell?; rw [heap_alloc_new]; rfl
        have hbw : Below wr.heap.size wr (wr.alloc (.cells #[.int .i64 ev.dot.node, .int .i64 ev.dot.seq, .int .i64 ev.time, .int .i64 ev.kind, .int .i64 ev.work, .int .i64 ev.value, .int .i64 ev.pol.mn, .int .i64 ev.pol.mx, .int .i64 ev.pol.goal, .int .i64 ev.pol.slack, .int .i64 ev.pol.up, .int .i64 ev.pol.down, .int .i64 ev.pol.cool, .slice ra rn rc] 34)) := (Below.refl _ _).alloc (Nat.le_refl _) _
        have hzb : wr.heap.size < (wr.alloc (.cells #[.int .i64 ev.dot.node, .int .i64 ev.dot.seq, .int .i64 ev.time, .int .i64 ev.kind, .int .i64 ev.work, .int .i64 ev.value, .int .i64 ev.pol.mn, .int .i64 ev.pol.mx, .int .i64 ev.pol.goal, .int .i64 ev.pol.slack, .int .i64 ev.pol.up, .int .i64 ev.pol.down, .int .i64 ev.pol.cool, .slice ra rn rc] 34)).heap.size := by simp
        generalize wr.alloc (.cells #[.int .i64 ev.dot.node, .int .i64 ev.dot.seq, .int .i64 ev.time, .int .i64 ev.kind, .int .i64 ev.work, .int .i64 ev.value, .int .i64 ev.pol.mn, .int .i64 ev.pol.mx, .int .i64 ev.pol.goal, .int .i64 ev.pol.slack, .int .i64 ev.pol.up, .int .i64 ev.pol.down, .int .i64 ev.pol.cool, .slice ra rn rc] 34) = wb at *
        have HO2 := Lib.hid (HO.out.below hbw (Nat.le_refl _))
        have HBB := Lib.hid (HB.out.trans (hbw.mono HB.out.size))
        clear hbw c0 c1 c2 c3 c4 c5 c6 c7 c8 c9 c10 c11 c12 c13
        generalize wr.heap.size = n1 at *
        have hA4 : wb.cell? ⟨n1, 4, none⟩ = some (.int .i64 ev.work) := hA 4
        go_loopg [6, 7] l.length (fun gk2 s6 s7 wr => ∃ (at' q : Nat) (is : Bool), s6 = .int .i64 at' ∧ s7 = .bool is ∧ at' ≤ l.length ∧ l.length - at' ≤ gk2 ∧ wr = wb.drewN q ∧ Hid (∀ y ∈ l.take at', y ≤ ev.work) ∧ Hid (is = true ↔ ev.work ∈ l.take at'))
        case atStart => exact ⟨0, 0, false, rfl, rfl, Nat.zero_le _, Nat.le_refl _, rfl, by show ∀ y ∈ l.take 0, _; simp, by show _ ↔ _; simp⟩
        case round =>
          obtain ⟨at', q, is, rfl, rfl, ha, hag, rfl, HD, HI⟩ := hrel
          go_wp2_with fail
          go_cut [30] (fun s30 wx => ∃ q2, wx = wb.drewN q2 ∧ ((s30 = .bool true ∧ ∃ (hk : at' < l.length), Hid (l[at']'hk ≤ ev.work)) ∨ (s30 = .bool false ∧ Hid (∀ y, l[at']? = some y → ev.work < y))))
          case first =>
            by_cases hal : at' < l.length
            · have halz : (at' : Int) < (l.length : Int) := by omega
              have hsl2 := HO2.out.at
              obtain ⟨b2, off2, rfl⟩ := hsl2.plain icells_len (by decide) (by intro e; rw [e] at hal; exact absurd hal (by simp))
              have d0 : wb.cell? ⟨b2, off2 + at', none⟩ = some (.int .i64 (l[at']'hal)) := by
                have := hsl2.cell icells_len (i := at') (c := 0) hal (by decide)
                simpa [icells] using this
              obtain ⟨y, hy⟩ : ∃ y, y = l[at']'hal := ⟨_, rfl⟩
              rw [← hy] at d0
              have HY := Lib.hid hy
              clear hsl2 hA hy
              by_cases hle : y ≤ ev.work
              · go_quiet (fail)
                go_wp2_with fail
                go_meet
                exact ⟨q + nq, by first | rfl | exact World.drewN_drewN _ _ _, .inl ⟨rfl, hal, by show _ ≤ _; rw [← HY.out]; exact hle⟩⟩
              · go_quiet (fail)
                go_wp2_with fail
                go_meet
                exact ⟨q + nq, by first | rfl | exact World.drewN_drewN _ _ _, .inr ⟨rfl, fun z hz => by rw [List.getElem?_eq_getElem hal, ← HY.out] at hz; have := Option.some.inj hz; omega⟩⟩
            · have halz : ¬ (at' : Int) < (l.length : Int) := by omega
              go_quiet (fail)
              go_wp2_with fail
              go_meet
              exact ⟨q + nq, by first | rfl | exact World.drewN_drewN _ _ _, .inr ⟨rfl, fun z hz => by rw [List.getElem?_eq_none (by omega)] at hz; cases hz⟩⟩
          case rest =>
            obtain ⟨q2, rfl, ⟨rfl, hal, HL⟩ | ⟨rfl, HL⟩⟩ := hcut
            · have halz : (at' : Int) < (l.length : Int) := by omega
              have hsl2 := HO2.out.at
              obtain ⟨b2, off2, rfl⟩ := hsl2.plain icells_len (by decide) (by intro e; rw [e] at hal; exact absurd hal (by simp))
              have d0 : wb.cell? ⟨b2, off2 + at', none⟩ = some (.int .i64 (l[at']'hal)) := by
                have := hsl2.cell icells_len (i := at') (c := 0) hal (by decide)
                simpa [icells] using this
              obtain ⟨y, hy⟩ : ∃ y, y = l[at']'hal := ⟨_, rfl⟩
              rw [← hy] at d0
              have HY := Lib.hid hy
              have HLE := Lib.hid (works_le HD.out hal HL.out)
              have HIS := Lib.hid (fun is' => works_is (is' := is') HI.out hal)
              clear hsl2 hA hy
              cases is with
              | true =>
                go_wp2_with fail
                go_quiet (fail)
                go_wp2_with fail
                go_roundg (l.length - (at' + 1))
                case measure => omega
                case rel => exact ⟨at' + 1, _, true, by go_num, rfl, by omega, Nat.le_refl _, by first | rfl | exact World.drewN_drewN _ _ _, HLE, HIS.out true (by simp)⟩
              | false =>
                by_cases hyw : y = ev.work
                · have hyb : (y == ev.work) = true := by simpa using hyw
                  have HYW := Lib.hid hyw
                  clear hyw
                  go_wp2_with fail
                  go_quiet (fail)
                  go_wp2_with fail
                  go_roundg (l.length - (at' + 1))
                  case measure => omega
                  case rel => exact ⟨at' + 1, _, true, by go_num, rfl, by omega, Nat.le_refl _, by first | rfl | exact World.drewN_drewN _ _ _, HLE, HIS.out true (by rw [← HY.out, HYW.out]; simp)⟩
                · have hyb : (y == ev.work) = false := by simpa using hyw
                  have HYW := Lib.hid hyb
                  clear hyw
                  go_wp2_with fail
                  go_quiet (fail)
                  go_wp2_with fail
                  go_roundg (l.length - (at' + 1))
                  case measure => omega
                  case rel => exact ⟨at' + 1, _, false, by go_num, rfl, by omega, Nat.le_refl _, by first | rfl | exact World.drewN_drewN _ _ _, HLE, HIS.out false (by rw [← HY.out, HYW.out]; rfl)⟩
            · cases is with
              | true =>
                have hskip : IsWorks ((ps.take (i + 1)).map (·.2)) l := by
                  rw [HTK.out]
                  exact HQ.out.skip (.inr (List.mem_of_mem_take (HI.out.1 rfl)))
                have HSK := Lib.hid hskip
                clear hskip hA hA4
                go_wp2_with fail
                go_roundg (ps.length - (i + 1))
                case measure => omega
                case rel => exact ⟨i + 1, oq, cq, l, by go_num, rfl, by omega, Nat.le_refl _, by omega, HO2.out.below (below_drewN _ _) (Nat.le_refl _), HSK, HBB.out.trans ((below_drewN _ _).mono HBB.out.size)⟩
              | false =>
                have hmore : IsWorks ((ps.take (i + 1)).map (·.2)) (l.take at' ++ [ev.work] ++ l.drop at') := by
                  rw [HTK.out]
                  exact HQ.out.more hke.out (works_lt HD.out HI.out) (rises_behind HQ.out.rises HL.out)
                have HMORE := Lib.hid hmore
                clear hmore hA
                have hcq : at' ≤ cq := by
                  obtain ⟨_, _, hv, hc⟩ := HO2.out.at.slice_of
                  simp only [Value.slice.injEq] at hv
                  omega
                go_wp2_with (at_builtin; go_loud (refine wpList_app icells 1 icells_len (by decide) icells_one _ rfl _ _ 37 rfl wb.heap.size 3 _ 8 Try.underlying37 infoInt rfl _ [] rfl ?h1 _ (l.take at') rfl ?h2 ?h3 ?h4 ?h5 ?_))
                case h1 => exact owns_made_int _ _ rfl
                case h2 =>
                  have hs2 := (HO2.out.take icells_len at' ha).at.below (B := wb.heap.size) icells_len (by decide) ((below_drewN wb q2).alloc (Nat.le_refl _) (.cells #[] 3)) (Nat.le_refl _)
                  simp [Act.eval]
                  exact hs2
                case h3 => simp only [List.length_nil, List.length_take]; omega
                case h4 => simp only [List.length_nil, List.length_take]; omega
                case h5 => simp
                intro v' w' hown hg2 hv2
                have hb2 : Below wb.heap.size wb w' := ((below_drewN wb q2).alloc (Nat.le_refl _) _).grown hg2 (by simp) (fun k hk => by simp [Value.ownBlock] at hk; omega)
                obtain ⟨hcell, hfr⟩ := bcell hb2
                have hA2 : w'.cell? ⟨n1, 4, none⟩ = some (.int .i64 ev.work) := (hcell _ _ hzb).trans hA4
                have hln : (l.take at').length = at' := by rw [List.length_take]; omega
                obtain ⟨on, cn, rfl⟩ := slAt_slice' hown.at
                rw [hln] at hown ⊢
                have HOWN := Lib.hid hown
                have HB2 := Lib.hid hb2
                clear hown hg2 hv2 hb2 hcell hfr hA4
                go_wp2_with fail
                have hzw := HB2.out.size
                have HOWND := Lib.hid (HOWN.out.below (below_drew (Below.refl w'.heap.size w')) (Nat.le_refl _))
                go_region_law (first
                  | (refine step_app icells 1 icells_len (by decide) icells_one _ rfl _ _ 37 rfl wb.heap.size 3 _ 8 Try.underlying37 infoInt rfl (.slice on at' cn) (l.take at') rfl (HOWND.out.below ((Below.refl _ _).alloc (Nat.le_refl _) _) (Nat.le_refl _)) _ [ev.work] rfl (slAt_new (enc := icells) w'.drew (icells ev.work).toArray 3 1 1 (0, 0) [ev.work] rfl rfl (by decide)) (by simp only [List.length_take, List.length_cons, List.length_nil]; omega) (by simp only [List.length_take, List.length_cons, List.length_nil]; omega) (by simp; omega) ?_
                     intro v4 w4 h4 hg4 hv4)
                  | (refine step_app icells 1 icells_len (by decide) icells_one _ rfl _ _ 37 rfl wb.heap.size 3 _ 8 Try.underlying37 infoInt rfl v4 (l.take at' ++ [ev.work]) rfl h4 _ (l.drop at') rfl (by
                       have b3 : Below wb.heap.size wb w4 := ((HB2.out.trans ((below_drew (Below.refl w'.heap.size w')).mono hzw)).alloc (by simp; omega) _).grown hg4 (by simp; omega) fun k hk => (HOWN.out.lt k hk).1
                       have hs := (HO2.out.at.sub icells_len (by decide) at' l.length ha (Nat.le_refl _)).below icells_len (by decide) b3 (Nat.le_refl _)
                       rw [List.take_length] at hs
                       simp [Act.eval]
                       simpa [sliced] using hs) (by simp only [List.length_append, List.length_drop, List.length_take, List.length_cons, List.length_nil]; omega) (by simp only [List.length_append, List.length_drop, List.length_take, List.length_cons, List.length_nil]; omega) (by have := hg4.size; simp at this; omega) ?_
                     intro v5 w5 h5 hg5 hv5))
                have hbb : Below wb.heap.size wb w5 := by
                  have b3 : Below wb.heap.size wb w4 := ((HB2.out.trans ((below_drew (Below.refl w'.heap.size w')).mono hzw)).alloc (by simp; omega) _).grown hg4 (by simp; omega) fun k hk => (HOWN.out.lt k hk).1
                  exact b3.grown hg5 b3.size fun k hk => (h4.lt k hk).1
                obtain ⟨o5, c5, rfl⟩ := slAt_slice' h5.at
                have HOW := Lib.hid (h5.lower HBB.out.size)
                have HBN := Lib.hid (HBB.out.trans (hbb.mono HBB.out.size))
                have hl5 : (l.take at' ++ [ev.work] ++ l.drop at').length = l.length + 1 := by simp only [List.length_append, List.length_drop, List.length_take, List.length_cons, List.length_nil]; omega
                clear hbb h4 hg4 hv4 h5 hg5 hv5
                generalize l.take at' ++ [ev.work] ++ l.drop at' = l' at *
                go_wp2_with fail
                all_goals
                  go_roundg (ps.length - (i + 1))
                  case measure => omega
                  case rel => exact ⟨i + 1, o5, c5, l', by go_num, by rw [hl5], by omega, Nat.le_refl _, by omega, HOW, HMORE, HBN⟩
    · have hltz : ¬ (i : Int) < (ps.length : Int) := by omega
      obtain rfl : i = ps.length := by omega
      have hq2 : IsWorks (ps.map (·.2)) l := by have := HQ.out; rwa [List.take_length] at this
      have HQ2 := Lib.hid hq2
      clear hq2
      go_wp2_with fail
      go_ret
      exact ⟨oq, cq, l, rfl, HQ2.out, hli, HO.out.at, HB.out⟩
end Go.Proofs.Ytflijljekbihfaa
