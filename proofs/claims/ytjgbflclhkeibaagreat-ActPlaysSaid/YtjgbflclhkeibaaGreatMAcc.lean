/-
  A slice of events that a function gathers in new memory, each with a clone of its own slice: how the whole lives on (Acc), and how one more is pushed.
  policy.Sets: the Sets of a workload among events, the latest first: a stable sorting of what is filtered, in new memory.
-/
import Derived.Test.YtjgbflclhkeibaaGreatMEv
import Derived.Test.YtjgbflclhkeibaaGreatMRd
import Derived.Deep.LoopGhost
import Derived.Test.YtjgbflclhkeibaaGreatMSortSt
import Derived.Test.YtjgbflclhkeibaaGreatCmp
namespace Go.Proofs.YtjgbflclhkeibaaGreat
open Go.RowKit Go.Sort
set_option linter.unusedVariables false

structure Acc (B e ed : Nat) (w : World) (v : Value) (qs : List PEv) : Prop where
  row : Owns pcells 14 B e w v qs
  rem : ∀ q ∈ qs, Owns Dot.cells 2 B ed w q.1.val q.2.rem ∧ (q.1.val.ownBlock = none ∨ q.1.val.ownBlock ≠ v.ownBlock)

theorem Acc.nil (B e ed : Nat) (w : World) : Acc B e ed w (.slice none 0 0) [] := ⟨Owns.nil _ _ _ _ _, fun q hq => by cases hq⟩

theorem Acc.below {B e ed : Nat} {w w' : World} {v : Value} {qs : List PEv} {C : Nat} (h : Acc B e ed w v qs) (hb : Below C w w') (hC : w.heap.size ≤ C) : Acc B e ed w' v qs :=
  ⟨h.row.below hb hC, fun q hq => ⟨(h.rem q hq).1.below hb hC, (h.rem q hq).2⟩⟩

theorem Acc.lower {B B' e ed : Nat} {w : World} {v : Value} {qs : List PEv} (h : Acc B e ed w v qs) (hb : B' ≤ B) : Acc B' e ed w v qs := ⟨h.row.lower hb, fun q hq => ⟨(h.rem q hq).1.lower hb, (h.rem q hq).2⟩⟩

/-- one more, behind an append -/
theorem Acc.push {B e ed : Nat} {W w' : World} {v v' : Value} {qs ms : List PEv} (h : Acc B e ed W v qs)
    (hr : ∀ q ∈ ms, Owns Dot.cells 2 B ed W q.1.val q.2.rem ∧ (q.1.val.ownBlock = none ∨ q.1.val.ownBlock ≠ v.ownBlock))
    (ho : Owns pcells 14 B e w' v' (qs ++ ms)) (hg : W.grownBy w' v.ownBlock) (hv : v'.ownBlock = v.ownBlock ∨ ∀ g, v'.ownBlock = some g → W.heap.size ≤ g) : Acc B e ed w' v' (qs ++ ms) := by
  refine ⟨ho, fun q hq => ?_⟩
  have hq' : Owns Dot.cells 2 B ed W q.1.val q.2.rem ∧ (q.1.val.ownBlock = none ∨ q.1.val.ownBlock ≠ v.ownBlock) := by
    rcases List.mem_append.1 hq with hq | hq
    · exact h.rem q hq
    · exact hr q hq
  refine ⟨hq'.1.kept hg hq'.2, ?_⟩
  rcases hv with hv | hv
  · rw [hv]; exact hq'.2
  · cases hb : q.1.val.ownBlock with
    | none => exact .inl rfl
    | some g =>
      refine .inr fun e2 => ?_
      have h1 := (hq'.1.lt g hb).2
      have h2 := hv g e2.symm
      omega

/-- the row is rewritten with the same events in another order -/
theorem Acc.perm {B e ed : Nat} {W w' : World} {v : Value} {qs qs' : List PEv} (h : Acc B e ed W v qs) (ho : Owns pcells 14 B e w' v qs') (hg : W.grownBy w' v.ownBlock) (hm : ∀ q ∈ qs', q ∈ qs) : Acc B e ed w' v qs' :=
  ⟨ho, fun q hq => ⟨(h.rem q (hm q hq)).1.kept hg (h.rem q (hm q hq)).2, (h.rem q (hm q hq)).2⟩⟩

theorem Acc.evs {B e ed : Nat} {w : World} {v : Value} {qs : List PEv} (h : Acc B e ed w v qs) : EvsAt w v qs := ⟨h.row.at, fun q hq => (h.rem q hq).1.at⟩

theorem stab_mem {α : Type} {lt : α → α → Bool} (hO : SWO lt) {l l' : List α} (h : StabL lt l l') : ∀ x ∈ l', x ∈ l := fun x hx => by
  have : x ∈ l'.filter (eqv lt x) := List.mem_filter.2 ⟨hx, eqv_refl hO x⟩
  rw [h x] at this
  exact (List.mem_filter.1 this).1

/-- told of the events alone -/
theorem stable_map {lt : PEv → PEv → Bool} {lt2 : Ev → Ev → Bool} (hlt : ∀ x y, lt x y = lt2 x.2 y.2) {l l' : List PEv} (h : stableOf lt l l') : stableOf lt2 (l.map (·.2)) (l'.map (·.2)) := by
  refine ⟨?_, fun y => ?_⟩
  · have := h.1
    unfold SortedL at *
    rw [List.pairwise_map]
    exact this.imp fun {a b} hab => by rw [← hlt]; exact hab
  · have e : ∀ (x : PEv), (fun a : PEv => eqv lt2 x.2 a.2) = eqv lt x := fun x => by funext a; simp [eqv, hlt]
    have k := h.2 (default, y)
    rw [List.filter_map, List.filter_map]
    have e2 : (eqv lt2 y ∘ fun x : PEv => x.2) = eqv lt (default, y) := by rw [← e (default, y)]; rfl
    rw [e2, k]

/-- the worlds of one round: the event boxed, its dots cloned, the clone stored, the event laid for the append -/
theorem round_below {wr w1 : World} {o lit : Obj} {p : Addr} {u : Value} (hp : p.block = wr.heap.size) (hb : Below (wr.alloc o).heap.size (wr.alloc o) w1) : Below wr.heap.size wr ((w1.setCell p u).alloc lit) := by
  have h1 : Below wr.heap.size wr w1 := ((Below.refl _ _).alloc (Nat.le_refl _) o).trans (hb.mono (by simp))
  have h2 := h1.size
  exact (h1.setCell (by omega) u).alloc (by simp [World.setCell]; omega) lit

theorem acc_round {B e ed : Nat} {wr w1 w' : World} {o lit : Obj} {v v' : Value} {qs : List PEv} {hd : Hdr} {ev : Ev} {p : Addr} {u : Value} (hp : p.block = wr.heap.size) (hB : B ≤ wr.heap.size)
    (h : Acc B e ed wr v qs) (hb : Below (wr.alloc o).heap.size (wr.alloc o) w1) (hc : Owns Dot.cells 2 (wr.alloc o).heap.size ed w1 hd.val ev.rem)
    (ho : Owns pcells 14 B e w' v' (qs ++ [(hd, ev)])) (hg : ((w1.setCell p u).alloc lit).grownBy w' v.ownBlock) (hv : v'.ownBlock = v.ownBlock ∨ ∀ g, v'.ownBlock = some g → w1.heap.size + 1 ≤ g) :
    Acc B e ed w' v' (qs ++ [(hd, ev)]) ∧ Below B wr w' := by
  have h3 := round_below (lit := lit) (u := u) hp hb
  have hs : (wr.alloc o).heap.size = wr.heap.size + 1 := by simp
  refine ⟨(h.below h3 (Nat.le_refl _)).push (fun q hq => ?_) ho hg (by simpa [World.setCell] using hv), (h3.mono hB).grown hg (Nat.le_trans hB h3.size) fun k hk => (h.row.lt k hk).1⟩
  obtain rfl : q = (hd, ev) := by simpa using hq
  refine ⟨(hc.lower (by omega)).keep fun g hg2 => ?_, ?_⟩
  · have hl := hc.lt g hg2
    rw [Below.heap_alloc _ _ _ (by simp [World.setCell]; exact hl.2), Below.heap_setCell _ _ _ _ (by omega)]
  · cases hx : hd.val.ownBlock with
    | none => exact .inl rfl
    | some g =>
      refine .inr fun e2 => ?_
      have h1 := (hc.lt g hx).1
      have h2 := (h.row.lt g e2.symm).2
      omega
end Go.Proofs.YtjgbflclhkeibaaGreat
namespace Go.Proofs.YtjgbflclhkeibaaGreat
open Go.Shelf Go.RowKit Go.Lib Go.Sort
set_option linter.unusedVariables false

theorem infoEv : (Tryz.prog.info? 74).map (fun i => (i.zero, i.size, i.bytes)) = some (some (.agg #[.int .i64 0, .int .i64 0, .int .i64 0, .int .i64 0, .int .i64 0, .int .i64 0, .int .i64 0, .int .i64 0, .int .i64 0, .int .i64 0, .int .i64 0, .int .i64 0, .int .i64 0, .slice none 0 0]), 14, 128) := by kernel_rfl

theorem slAt_some {w : World} {oa : Option Addr} {n cap : Nat} {l : List PEv} (h : SlAt pcells w (.slice oa n cap) l) (i : Nat) (hi : i < l.length) : ∃ b off, oa = some ⟨b, off, none⟩ :=
  h.plain pcells_len (by decide) (by intro e; rw [e] at hi; exact absurd hi (by simp))
def isSet (work : Int) (e : Ev) : Bool := e.kind == 2 && e.work == work
theorem infoLa : (Tryz.prog.info? 132).map (fun i => (i.zero, i.size, i.bytes)) = some (some (.agg #[.int .i64 0, .int .i64 0, .int .i64 0, .int .i64 0, .int .i64 0, .int .i64 0, .int .i64 0, .int .i64 0, .int .i64 0, .int .i64 0, .int .i64 0, .int .i64 0, .int .i64 0, .slice none 0 0]), 14, 128) := by kernel_rfl

/-- what Sets leaves -/
def SetsPost (ps : List PEv) (work : Int) (w : World) (e : Ending) (w' : World) : Prop :=
  ∃ v qs, e = .returned v ∧ stableOf evLater ((ps.map (·.2)).filter (isSet work)) (qs.map (·.2)) ∧ Acc w.heap.size 74 71 w' v qs ∧ Below w.heap.size w w'

/-- the filtering so far -/
theorem take_filter (f : Ev → Bool) (ps : List PEv) (i : Nat) (p : PEv) (hp : ps[i]? = some p) : ((ps.take (i + 1)).map (·.2)).filter f = ((ps.take i).map (·.2)).filter f ++ (if f p.2 then [p.2] else []) := by
  rw [List.take_succ_eq_append_getElem (List.getElem?_eq_some_iff.1 hp).1, (List.getElem?_eq_some_iff.1 hp).2, List.map_append, List.filter_append]
  simp [List.filter_cons]

set_option maxHeartbeats 8000000 in
theorem sets_any (oa : Option Addr) (cap : Nat) (ps : List PEv) (work : Int) (w : World) (h : EvsAt w (.slice oa ps.length cap) ps) (hl : ps.length ≤ 1000000) (hr : ∀ p ∈ ps, p.2.rem.length ≤ 1000000) :
    Calls Tryz.prog 57 #[.slice oa ps.length cap, .int .i64 work] w (SetsPost ps work w) := by
  have HE := Lib.hid h
  have HR := Lib.hid hr
  clear h hr
  go_enter Tryz.func57, Tryz.ntmps57
  go_wp2_with fail
  go_loopg [5, 13] ps.length (fun gk s5 s13 wr => ∃ (i : Nat) (oq : Option Addr) (cq : Nat) (qs : List PEv), s13 = .int .i64 i ∧ s5 = .slice oq qs.length cq ∧ i ≤ ps.length ∧ ps.length - i ≤ gk ∧ qs.length ≤ i ∧ Hid (Acc w.heap.size 132 71 wr (.slice oq qs.length cq) qs) ∧ Hid (qs.map (·.2) = ((ps.take i).map (·.2)).filter (isSet work)) ∧ Hid (Below w.heap.size w wr))
  case atStart => exact ⟨0, none, 0, [], rfl, rfl, Nat.zero_le _, Nat.le_refl _, Nat.le_refl _, Acc.nil _ _ _ _, by show _ = _; simp, Below.refl _ _⟩
  case round =>
    obtain ⟨i, oq, cq, qs, rfl, rfl, hi, hg, hqi, HO, HQ, HB⟩ := hrel
    by_cases hlt : i < ps.length
    · have hltz : (i : Int) < (ps.length : Int) := by omega
      have hsl : SlAt pcells wr (.slice oa ps.length cap) ps := HE.out.1.below pcells_len (by decide) HB.out (Nat.le_refl _)
      obtain ⟨b, off, rfl⟩ := slAt_some hsl i hlt
      obtain ⟨ra, rn, rc, ev, hp, c0, c1, c2, c3, c4, c5, c6, c7, c8, c9, c10, c11, c12, c13⟩ := hsl.ev i hlt
      have hmem : (⟨⟨ra, rn, rc⟩, ev⟩ : PEv) ∈ ps := List.mem_of_getElem? hp
      have hrem : SlAt Dot.cells wr (.slice ra rn rc) ev.rem := (HE.out.2 _ hmem).below Dot.cells_len (by decide) HB.out (Nat.le_refl _)
      have hrl : ev.rem.length ≤ 1000000 := HR.out _ hmem
      have htf := take_filter (isSet work) ps i _ hp
      have HREM := Lib.hid hrem
      have HTF := Lib.hid htf
      clear hsl hp hmem hrem htf
      by_cases hk : (ev.kind == 2) = true
      · by_cases hw : (ev.work == work) = true
        · have his : Hid (isSet work ev = true) := by show _ = _; unfold isSet; rw [hk, hw]; rfl
          go_wp2_with fail
          refine (cloneDot_any _ ev.rem _ (HREM.out.below Dot.cells_len (by decide) ((Below.refl _ _).alloc (Nat.le_refl _) _) (Nat.le_refl _)) hrl).mono ?_
          rintro e w1 ⟨⟨ha, hn, hc⟩, rfl, hown, hb⟩
          obtain ⟨hcell, hfr⟩ := bcell hb
          have hz : wr.heap.size < w1.heap.size := by have := hb.size; simp at this; omega
          have HOWN := Lib.hid hown
          have HB1 := Lib.hid hb
          clear hown hb
          simp only [Hdr.val]
          go_wp2_with (at_builtin; go_loud (refine wpList_app pcells 14 pcells_len (by decide) pcells_one _ rfl _ _ 130 rfl w.heap.size 132 _ 128 Tryz.underlying130 infoLa rfl _ qs rfl ?h1 _ [(⟨ha, hn, hc⟩, ev)] rfl ?h2 ?h3 ?h4 ?h5 ?_))
          case h1 => exact HO.out.row.below (round_below rfl HB1.out) (Nat.le_refl _)
          case h2 =>
            have hn := slAt_new (enc := pcells) (w1.setCell ⟨wr.heap.size, 13, none⟩ (.slice ha hn hc)) (pcells (⟨ha, hn, hc⟩, ev)).toArray 132 1 1 (0, 0) [(⟨ha, hn, hc⟩, ev)] rfl rfl (by decide)
            rw [World.size_setCell] at hn
            exact hn
          case h3 => simp only [List.length_cons, List.length_nil]; omega
          case h4 => simp only [List.length_cons, List.length_nil]; omega
          case h5 => exact Nat.le_trans HB.out.size (round_below rfl HB1.out).size
          intro v' w' hown2 hg2 hv2
          obtain ⟨hacc, hbb⟩ := acc_round rfl HB.out.size HO.out HB1.out HOWN.out hown2 hg2 hv2
          obtain ⟨oq', cq', hv'⟩ := slAt_slice hown2.at
          rw [hv'] at hacc ⊢
          have HACC := Lib.hid hacc
          have HBB := Lib.hid hbb
          clear hacc hbb hown2 hg2 hv2 hcell hfr
          go_wp2_with fail
          go_roundg (ps.length - (i + 1))
          case measure => omega
          case rel => exact ⟨i + 1, oq', cq', qs ++ [((⟨ha, hn, hc⟩ : Hdr), ev)], by go_num, rfl, by omega, Nat.le_refl _, by simp only [List.length_append, List.length_cons, List.length_nil]; omega, HACC, by show _ = _; rw [HTF.out, his.out, List.map_append, HQ.out]; rfl, HB.out.trans HBB.out⟩
        · have hw' : (ev.work == work) = false := by simpa using hw
          have his : Hid (isSet work ev = false) := by show _ = _; unfold isSet; rw [hw', Bool.and_false]
          clear hw
          go_wp2_with fail
          go_roundg (ps.length - (i + 1))
          case measure => omega
          case rel => exact ⟨i + 1, oq, cq, qs, by go_num, rfl, by omega, Nat.le_refl _, by omega, HO.out.below ((Below.refl _ _).alloc (Nat.le_refl _) _) (Nat.le_refl _), by show _ = _; rw [HTF.out, his.out, HQ.out]; simp, HB.out.trans ((Below.refl _ _).alloc HB.out.size _)⟩
      · have hk' : (ev.kind == 2) = false := by simpa using hk
        have his : Hid (isSet work ev = false) := by show _ = _; unfold isSet; rw [hk', Bool.false_and]
        clear hk
        go_wp2_with fail
        go_roundg (ps.length - (i + 1))
        case measure => omega
        case rel => exact ⟨i + 1, oq, cq, qs, by go_num, rfl, by omega, Nat.le_refl _, by omega, HO.out.below ((Below.refl _ _).alloc (Nat.le_refl _) _) (Nat.le_refl _), by show _ = _; rw [HTF.out, his.out, HQ.out]; simp, HB.out.trans ((Below.refl _ _).alloc HB.out.size _)⟩
    · have hltz : ¬ (i : Int) < (ps.length : Int) := by omega
      obtain rfl : i = ps.length := by omega
      have hq2 : Hid (qs.map (·.2) = (ps.map (·.2)).filter (isSet work)) := by show _ = _; rw [HQ.out, List.take_length]
      have eg : ∀ args w, (callFunc 81 args).run Tryz.prog w = .ok (.enter 81 args) w := enters_of Tryz.func81 (by kernel_rfl) rfl
      have hsort := sortStableLa pcells pcells_len pcells_one cmpLater swo_later 81 #[] w.heap.size 132 _ qs wr eg (fun W x y => compare_any x y W) HO.out.row (by omega)
      have HS := Lib.hid hsort
      clear hsort eg
      go_wp2_with fail
      refine HS.out.mono ?_
      rintro e w1 ⟨rfl, ls, hso, hll, hown, hg⟩
      have hacc : Acc w.heap.size 132 71 w1 (.slice oq qs.length cq) ls := HO.out.perm hown hg (stab_mem swo_later hso.2)
      have hb1 : Below w.heap.size w w1 := HB.out.grown hg HB.out.size fun k hk => (HO.out.row.lt k hk).1
      have hst : stableOf evLater ((ps.map (·.2)).filter (isSet work)) (ls.map (·.2)) := by rw [← hq2.out]; exact stable_map (fun x y => by rw [ltOf_later]) hso
      have HACC := Lib.hid hacc
      have HB1 := Lib.hid hb1
      have HST := Lib.hid hst
      rw [← hll]
      have hll2 : ls.length ≤ ps.length := by omega
      have hll := Lib.hid hll
      clear hacc hb1 hst hso hown hg HO HB HQ hq2 HS hqi
      go_wp2_with fail
      go_loopg [8, 39] ls.length (fun gk s8 s39 wr => ∃ (j : Nat) (ov : Option Addr) (cv : Nat), s39 = .int .i64 j ∧ s8 = .slice ov j cv ∧ j ≤ ls.length ∧ ls.length - j ≤ gk ∧ Hid (Owns pcells 14 w1.heap.size 74 wr (.slice ov j cv) (ls.take j)) ∧ Hid (Below w1.heap.size w1 wr))
      case atStart => exact ⟨0, none, 0, rfl, rfl, Nat.zero_le _, Nat.le_refl _, Owns.nil _ _ _ _ _, Below.refl _ _⟩
      case round =>
        obtain ⟨j, ov, cv, rfl, rfl, hj, hg2, HO, HB⟩ := hrel
        by_cases hlt : j < ls.length
        · have hltz : (j : Int) < (ls.length : Int) := by omega
          have hsl : SlAt pcells wr (.slice oq ls.length cq) ls := by
            have h := HACC.out.evs.1
            rw [← hll.out] at h
            exact h.below pcells_len (by decide) HB.out (Nat.le_refl _)
          obtain ⟨b, off, rfl⟩ := slAt_some hsl j hlt
          obtain ⟨ra, rn, rc, ev, hp, c0, c1, c2, c3, c4, c5, c6, c7, c8, c9, c10, c11, c12, c13⟩ := hsl.ev j hlt
          have htk : ls.take (j + 1) = ls.take j ++ [((⟨ra, rn, rc⟩ : Hdr), ev)] := by
            rw [List.take_succ_eq_append_getElem hlt, (List.getElem?_eq_some_iff.1 hp).2]
          have HTK := Lib.hid htk
          have htl : (ls.take j).length ≤ ls.length := by rw [List.length_take]; omega
          have htl2 : (ls.take (j + 1)).length = j + 1 := by rw [List.length_take]; omega
          have HTL := Lib.hid htl2
          clear hsl hp htk htl2
          go_wp2_with (at_builtin; go_loud (refine wpList_app pcells 14 pcells_len (by decide) pcells_one _ rfl _ _ 36 rfl w1.heap.size 74 _ 128 Tryz.underlying36 infoEv rfl _ (ls.take j) rfl ?h1 _ [((⟨ra, rn, rc⟩ : Hdr), ev)] rfl ?h2 ?h3 ?h4 ?h5 ?_))
          case h1 => exact HO.out.below (((Below.refl _ _).alloc (Nat.le_refl _) _).alloc (by simp) _) (Nat.le_refl _)
          case h2 =>
            have hn := slAt_new (enc := pcells) (wr.alloc (.cells (pcells (⟨ra, rn, rc⟩, ev)).toArray 132)) (pcells (⟨ra, rn, rc⟩, ev)).toArray 74 1 1 (0, 0) [((⟨ra, rn, rc⟩ : Hdr), ev)] rfl rfl (by decide)
            rw [World.size_alloc] at hn
            exact hn
          case h3 => simp only [List.length_cons, List.length_nil]; omega
          case h4 => simp only [List.length_cons, List.length_nil]; omega
          case h5 => have := HB.out.size; simp; omega
          intro v' w' hown2 hg2 hv2
          have hbb : Below w1.heap.size wr w' := (((Below.refl _ _).alloc HB.out.size _).alloc (by have := HB.out.size; simp; omega) _).grown hg2 (by have := HB.out.size; simp; omega) fun k hk => (HO.out.lt k hk).1
          obtain ⟨oq', cq', hv'⟩ := slAt_slice hown2.at
          rw [← HTK.out] at hv' hown2
          rw [HTL.out] at hv'
          rw [hv'] at hown2 ⊢
          have HOW := Lib.hid hown2
          have HBB := Lib.hid hbb
          clear hbb hown2 hg2 hv2
          go_wp2_with fail
          go_roundg (ls.length - (j + 1))
          case measure => omega
          case rel => exact ⟨j + 1, oq', cq', by go_num, rfl, by omega, Nat.le_refl _, HOW, HB.out.trans HBB.out⟩
        · have hltz : ¬ (j : Int) < (ls.length : Int) := by omega
          obtain rfl : j = ls.length := by omega
          go_wp2_with fail
          go_ret
          have e1 : ls.take ls.length = ls := List.take_length
          have ho := HO.out
          rw [e1] at ho
          refine ⟨.slice ov ls.length cv, ls, by rw [hll.out]; rfl, HST.out, ?_, HB1.out.trans (HB.out.mono HB1.out.size)⟩
          refine ⟨ho.lower HB1.out.size, fun q hq => ?_⟩
          have hq2 := (HACC.out.rem q hq).1
          refine ⟨hq2.below HB.out (Nat.le_refl _), ?_⟩
          cases hx : q.1.val.ownBlock with
          | none => exact .inl rfl
          | some g =>
            refine .inr fun e2 => ?_
            have h1 := (hq2.lt g hx).2
            have h2 := (ho.lt g e2.symm).1
            omega
end Go.Proofs.YtjgbflclhkeibaaGreat
