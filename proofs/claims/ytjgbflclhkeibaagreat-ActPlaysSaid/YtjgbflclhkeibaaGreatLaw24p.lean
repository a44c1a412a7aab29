/-
  ActPlays walked: through any plans and writes what each answers, and what was wished of late, is the document's; what is handed in stays.
-/
import Derived.Test.YtjgbflclhkeibaaGreatMMore
import Derived.Test.YtjgbflclhkeibaaGreatMAlive24
import Derived.Test.YtjgbflclhkeibaaGreatAll07
import Derived.Deep.RegionHeld
import Derived.Deep.DeepCutAuto
import Derived.Deep.RegionLaw
namespace Go.Proofs.YtjgbflclhkeibaaGreat
open Go.Shelf Go.RowKit Go.Lib Go.Sort
set_option linter.unusedVariables false
/-- a cell of a row of one's own, turned -/
theorem Owns.turn {B g n cap : Nat} {e : Nat} {w : World} {l : List Int} (h : Owns icells 1 B e w (.slice (some ⟨g, 0, none⟩) n cap) l) (i : Nat) (x : Int) (hi : i < l.length) :
    Owns icells 1 B e (w.setCell ⟨g, i, none⟩ (.int .i64 x)) (.slice (some ⟨g, 0, none⟩) n cap) (l.set i x) := by
  obtain ⟨h1, h2⟩ := h
  refine ⟨by simp [icells_flat], ?_⟩
  rcases h2 with ⟨hv, hn⟩ | ⟨g', cap', cur, hv, hb, hh, hc, hm, hs, ht⟩
  · cases hv
  · simp only [Value.slice.injEq, Option.some.injEq, Addr.mk.injEq] at hv
    obtain ⟨⟨rfl, _, _⟩, rfl, rfl⟩ := hv
    refine .inr ⟨g, cap, cur.setIfInBounds i (.int .i64 x), by simp, hb, heap_setCell_same _ _ _ _ _ _ _ hh, by simpa using hc, hm, by simpa using hs, ?_⟩
    rw [icells_flat] at ht ⊢
    simp only [List.length_set, Nat.mul_one, Array.toList_setIfInBounds] at ht ⊢
    rw [List.take_set, ht, List.map_set]
theorem Owns.cellI {B g n cap : Nat} {e : Nat} {w : World} {l : List Int} (h : Owns icells 1 B e w (.slice (some ⟨g, 0, none⟩) n cap) l) (i : Nat) (hi : i < l.length) : w.cell? ⟨g, i, none⟩ = some (.int .i64 (l.getD i 0)) := by
  have := h.at
  obtain ⟨oa, cap', hv, _⟩ := this.slice_of
  simp only [Value.slice.injEq] at hv
  obtain ⟨_, rfl, _⟩ := hv
  have := this.cell icells_len (i := i) (c := 0) hi (by decide)
  simpa [icells, List.getD, List.getElem?_eq_getElem hi] using this
theorem Owns.freeI {B g n cap : Nat} {e : Nat} {w : World} {l : List Int} (h : Owns icells 1 B e w (.slice (some ⟨g, 0, none⟩) n cap) l) (i : Nat) : w.frozen? ⟨g, i, none⟩ = false := by
  rcases h.2 with ⟨hv, hn⟩ | ⟨g', cap', cur, hv, hb, hh, hc, hm, hs, ht⟩
  · cases hv
  · simp only [Value.slice.injEq, Option.some.injEq, Addr.mk.injEq] at hv
    obtain ⟨⟨rfl, _, _⟩, rfl, rfl⟩ := hv
    simp [World.frozen?, hh]
theorem row_kept {W W' : World} {q ab : Nat} {o : Obj} (h : W.heap[q]? = some o) (hg : W.grownBy W' (some ab)) (hne : q ≠ ab) : W'.heap[q]? = some o :=
  (hg.block q (Array.getElem?_eq_some_iff.1 h).1 (fun e => hne (Option.some.inj e))).trans h
theorem row_over {W W' : World} {q base : Nat} {o : Obj} (h : W.heap[q]? = some o) (hg : Over base W W') (hb : base ≤ q) : W'.heap[q]? = some o :=
  (hg.block q hb (Array.getElem?_eq_some_iff.1 h).1).trans h
theorem doneA_wished (ts : Nat → Trk) (work tick : Int) (n : Nat) : ((doneA ts work tick).2 n).wished = (ts n).wished := by
  unfold doneA
  split
  · show (upd ts work.toNat ⟨(ts work.toNat).wished, true, tick⟩ n).wished = _
    unfold upd
    split
    · subst_vars; rfl
    · rfl
  · rfl
theorem Pair.weak {ab rb B : Nat} {c : ACfg} {i : Nat} {w W : World} {vs rvs : Nat → Value} {ts hs : Nat → Trk} (h : Pair ab rb B c i w W vs rvs ts hs) : Pair ab rb B c (i + 1) w W vs rvs ts hs :=
  ⟨h.below, h.obj, h.ref, h.hab, h.abrb, h.BW, h.apart, fun m => Nat.le_succ_of_le (h.len m)⟩
theorem seen_none (c : ACfg) : seenA c (fun _ => Trk.none) = fun _ => Trk.none := by
  funext m
  unfold seenA seenT
  simp [Trk.none, lastN]
def ccells (c : ACfg) : Array Value := #[.int .i64 c.self, .int .i64 c.window, .int .i64 c.keep, .int .u64 c.salt]
def opcells (d : Bool) (o : AOp) : Array Value := #[.bool d, .slice o.oe o.evs.length o.ce, .slice o.ol o.live.length o.cl, .int .i64 o.work, .int .i64 o.now, .int .i64 o.tick]
/-- how a step's cells read -/
theorem op_reads {W : World} {ob : Nat} {d : Bool} {o : AOp} {t : TypeId} (h : W.heap[ob]? = some (.cells (opcells d o) t)) :
    W.cell? ⟨ob, 1, none⟩ = some (.slice o.oe o.evs.length o.ce) ∧ W.cell? ⟨ob, 2, none⟩ = some (.slice o.ol o.live.length o.cl) ∧ W.cell? ⟨ob, 3, none⟩ = some (.int .i64 o.work) ∧ W.cell? ⟨ob, 4, none⟩ = some (.int .i64 o.now) ∧ W.cell? ⟨ob, 5, none⟩ = some (.int .i64 o.tick) :=
  ⟨cell_of_row _ _ 1 _ _ _ h, cell_of_row _ _ 2 _ _ _ h, cell_of_row _ _ 3 _ _ _ h, cell_of_row _ _ 4 _ _ _ h, cell_of_row _ _ 5 _ _ _ h⟩
set_option maxRecDepth 100000 in
set_option maxHeartbeats 16000000 in
theorem actPlays_any (c : ACfg) (oa : Option Addr) (cap : Nat) (l : List AOp) (w : World) (hs0 : 0 ≤ c.salt) (hs1 : c.salt < 18446744073709551616) (h : OpsAt w (.slice oa l.length cap) l) (hl : l.length ≤ 1000000000000000) (hf : ∀ o ∈ l, o.sized) :
    Calls Tryz.prog 3 #[.agg #[.int .i64 c.self, .int .i64 c.window, .int .i64 c.keep, .int .u64 c.salt], .slice oa l.length cap] w fun e w' => e = .returned (.bool true) ∧ Below w.heap.size w w' := by
  have hal := fun W => alive24_any W
  have HAL := Lib.hid hal
  have HE := Lib.hid h
  have hgr := fun W (hW : Below w.heap.size w W) => greatOps_any oa cap l W (h.below hW) hl hf
  have HGR := Lib.hid hgr
  obtain ⟨gb, hgb⟩ : ∃ g, greatOps l = g := ⟨_, rfl⟩
  rw [hgb] at HGR
  have HGB := Lib.hid hgb
  clear hal h hf hgr hgb
  go_enter Tryz.func3, Tryz.ntmps3
  go_wp2_with fail
  refine (HAL.out _).mono ?_
  rintro e w1 ⟨rfl, hb1⟩
  have hrow : w1.heap[w.heap.size]? = some (.cells (ccells c) 24) := (hb1.block _ (by simp)).trans (heap_alloc_new w _)
  have HB1 := Lib.hid (((Below.refl w.heap.size w).alloc (Nat.le_refl _) (.cells (ccells c) 24)).trans (hb1.mono (by simp)))
  have hwlt : w.heap.size < w1.heap.size := (Array.getElem?_eq_some_iff.1 hrow).1
  have HROW := Lib.hid hrow
  clear hb1 hrow
  cases gb with
  | true =>
    go_wp2_with fail
    refine (HGR.out _ HB1.out).mono ?_
    rintro e w2 ⟨rfl, hb2⟩
    have HB2 := Lib.hid (HB1.out.trans (hb2.mono HB1.out.size))
    clear hb2
    go_wp2_with fail
    go_ret
    exact ⟨rfl, HB2.out⟩
  | false =>
    obtain ⟨hl60, hsz⟩ := greatOps_not HGB.out
    have HSZ := Lib.hid hsz
    clear hsz
    go_wp2_with fail
    refine (HGR.out _ HB1.out).mono ?_
    rintro e w2 ⟨rfl, hb2⟩
    have HB2 := Lib.hid (HB1.out.trans (hb2.mono HB1.out.size))
    have HROW2 := Lib.hid ((hb2.block _ hwlt).trans HROW.out)
    have hwlt2 : w.heap.size < w2.heap.size := Nat.lt_of_lt_of_le hwlt hb2.size
    have m0 : w2.cell? ⟨w.heap.size, 0, none⟩ = some (.int .i64 c.self) := cell_of_row _ _ 0 _ _ _ HROW2.out
    have m1 : w2.cell? ⟨w.heap.size, 1, none⟩ = some (.int .i64 c.window) := cell_of_row _ _ 1 _ _ _ HROW2.out
    have m2 : w2.cell? ⟨w.heap.size, 2, none⟩ = some (.int .i64 c.keep) := cell_of_row _ _ 2 _ _ _ HROW2.out
    have m3 : w2.cell? ⟨w.heap.size, 3, none⟩ = some (.int .u64 c.salt) := cell_of_row _ _ 3 _ _ _ HROW2.out
    clear hb2 HB1 HROW hwlt HAL HGR
    by_cases hc : c.right
    · have hnw := actNew_right c hc w2
      have hnr := fun W => refNew_right c hc W
      have HNW := Lib.hid hnw
      have HNR := Lib.hid hnr
      have HC := Lib.hid hc
      clear hnw hc hnr
      go_wp2_with fail
      refine HNW.out.mono ?_
      rintro e w3 ⟨ab, rfl, hab, ha, hb3⟩
      have HA3 := Lib.hid ha
      have HB3 := Lib.hid (HB2.out.trans (hb3.mono HB2.out.size))
      have hrow3 := (hb3.block _ hwlt2).trans HROW2.out
      have hwab : w.heap.size < ab := by omega
      have habl := ha.lt
      clear ha hb3 HB2 HROW2 m0 m1 m2 m3 HNW
      have m0 : w3.cell? ⟨w.heap.size, 0, none⟩ = some (.int .i64 c.self) := cell_of_row _ _ 0 _ _ _ hrow3
      have m1 : w3.cell? ⟨w.heap.size, 1, none⟩ = some (.int .i64 c.window) := cell_of_row _ _ 1 _ _ _ hrow3
      have m2 : w3.cell? ⟨w.heap.size, 2, none⟩ = some (.int .i64 c.keep) := cell_of_row _ _ 2 _ _ _ hrow3
      have m3 : w3.cell? ⟨w.heap.size, 3, none⟩ = some (.int .u64 c.salt) := cell_of_row _ _ 3 _ _ _ hrow3
      clear hrow3
      go_wp2_with fail
      refine (HNR.out _).mono ?_
      rintro e w4 ⟨rb, rfl, hrb, hrbs, hr4, hb4⟩
      have hpair : Pair ab rb (rb + 1) c 0 w w4 (fun _ => .slice none 0 0) (fun _ => .slice none 0 0) (seenA c fun _ => Trk.none) (fun _ => Trk.none) :=
        ⟨HB3.out.trans (hb4.mono HB3.out.size), by rw [seen_none]; exact HA3.out.below hb4, hr4, by omega, by omega, by omega, fun m hm hne => absurd (by rw [seen_none]; rfl) hne, fun m => by simp [Trk.none]⟩
      have HPAIR := Lib.hid hpair
      clear hr4 hb4 hpair HA3 HB3 m0 m1 m2 m3 HNR
      go_wp2_with fail
      go_loopg [49] l.length (fun gk s49 wr => ∃ (i : Nat) (vs rvs : Nat → Value) (hs : Nat → Trk), s49 = .int .i64 i ∧ i ≤ l.length ∧ l.length - i ≤ gk ∧ Hid (Pair ab rb (rb + 1) c i w wr vs rvs (seenA c hs) hs))
      case atStart => exact ⟨0, _, _, _, rfl, Nat.zero_le _, Nat.le_refl _, HPAIR.out⟩
      case round =>
        obtain ⟨i, vs, rvs, hs, rfl, hi, hg, HPR⟩ := hrel
        by_cases hlt : i < l.length
        · have hltz : (i : Int) < (l.length : Int) := by omega
          have hsl := HE.out.below HPR.out.below
          obtain ⟨b, off, rfl⟩ := hsl.1.plain AOp.cells_len (by decide) (by intro e; rw [e] at hlt; exact absurd hlt (by simp))
          obtain ⟨o, hp, hmem, hev, hlv, d0, d1, d2, d3, d4, d5⟩ := hsl.op i hlt
          obtain ⟨hz1, hz2, hz3⟩ := HSZ.out o hmem
          have HLV0 := Lib.hid (HE.out.2 o hmem).2
          have HEV0 := Lib.hid (HE.out.2 o hmem).1
          have HZ3 := Lib.hid hz3
          have hrblt := HPR.out.ref.lt
          have habrb := HPR.out.abrb
          obtain ⟨dn, hdn⟩ : ∃ x, o.done = x := ⟨_, rfl⟩
          rw [hdn] at d0
          have hnew : (wr.alloc (.cells (opcells dn o) 39)).heap[wr.heap.size]? = some (.cells (opcells dn o) 39) := heap_alloc_new wr _
          have HPR1 := Lib.hid (HPR.out.on ((Below.refl _ _).alloc (Nat.le_refl _) (.cells (opcells dn o) 39)))
          have HOP1 := Lib.hid hnew
          have hobs : wr.heap.size < (wr.alloc (.cells (opcells dn o) 39)).heap.size := by simp
          clear hsl hp hmem hev hlv hz3 hdn hnew
          cases dn with
          | true =>
            go_wp2_with fail
            have hw1 : wr.alloc (.cells #[.bool true, .slice o.oe o.evs.length o.ce, .slice o.ol o.live.length o.cl, .int .i64 o.work, .int .i64 o.now, .int .i64 o.tick] 39) = wr.alloc (.cells (opcells true o) 39) := rfl
            rw [hw1]
            clear hw1 d0 d1 d2 d3 d4 d5
            generalize wr.alloc (.cells (opcells true o) 39) = wa at *
            generalize wr.heap.size = ob at *
            have HPRd := Lib.hid (HPR1.out.on (below_drew (Below.refl wa.heap.size wa)))
            have HOPd := Lib.hid (show wa.drew.heap[ob]? = some (.cells (opcells true o) 39) from HOP1.out)
            go_region_held (fun w' => w'.cell? ⟨ob, 3, none⟩ = some (.int .i64 o.work) ∧ w'.cell? ⟨ob, 5, none⟩ = some (.int .i64 o.tick))
              (first | exact ⟨(op_reads HOPd.out).2.2.1, (op_reads HOPd.out).2.2.2.2⟩ | exact ⟨(op_reads HOP5.out).2.2.1, (op_reads HOP5.out).2.2.2.2⟩ | exact ⟨(op_reads HOP6.out).2.2.1, (op_reads HOP6.out).2.2.2.2⟩)
              (first
                | (go_at_call 8; refine (done_all ab c vs (seenA c hs) _ o.work o.tick HPRd.out.obj).mono ?_; rintro e w5 ⟨rfl, ho5, hg5⟩; have HP5 := Lib.hid (HPRd.out.done ho5 (fun m => doneA_wished _ _ _ m) hg5); have HOP5 := Lib.hid (row_kept HOPd.out hg5 (by omega)); clear ho5 hg5)
                | (go_at_call 9; refine (refDone_all o.work o.tick HP5.out.ref).mono ?_; rintro e w6 ⟨rfl, hs2, ho6, hse, hwi, hg6⟩; have HP6 := Lib.hid (HP5.out.refdone ho6 hwi hg6); have HSE := Lib.hid hse; have HOP6 := Lib.hid (row_kept HOP5.out hg6 (by omega)); clear ho6 hse hwi hg6))
            all_goals
              go_wp2_with fail
              go_roundg (l.length - (i + 1))
              case measure => omega
              case rel => exact ⟨i + 1, vs, rvs, hs2, by go_num, by omega, Nat.le_refl _, by rw [HSE.out]; exact HP6.out.weak⟩
          | false =>
            go_wp2_with fail
            have hw1 : wr.alloc (.cells #[.bool false, .slice o.oe o.evs.length o.ce, .slice o.ol o.live.length o.cl, .int .i64 o.work, .int .i64 o.now, .int .i64 o.tick] 39) = wr.alloc (.cells (opcells false o) 39) := rfl
            rw [hw1]
            clear hw1 d0 d1 d2 d3 d4 d5
            have hwrlt : wr.heap.size < (wr.alloc (.cells (opcells false o) 39)).heap.size := by simp
            have hrvlt : ∀ m, m < 8 → ∀ k, (rvs m).ownBlock = some k → k < wr.heap.size := fun m hm k hk => (HPR.out.rlt m hm k hk).2
            have HRV := Lib.hid hrvlt
            clear hrvlt
            generalize wr.alloc (.cells (opcells false o) 39) = wa at *
            generalize wr.heap.size = ob at *
            have hcp := fun W (hW : Below wa.heap.size wa W) => copies_any o.oe o.ce o.evs W (HEV0.out.below (HPR1.out.below.trans (hW.mono HPR1.out.below.size)) (Nat.le_refl _)) (by omega) (fun p hp => by have := HZ3.out p hp; omega)
            have HCP := Lib.hid hcp
            have HLV1 := Lib.hid (HLV0.out.below icells_len (by decide) HPR1.out.below (Nat.le_refl _))
            have hr15 := op_reads HOP1.out
            obtain ⟨e1, e2, _, _, _⟩ := hr15
            clear hcp
            go_cut [11, 12] (fun s11 s12 wx => ∃ (oq : Option Addr) (cq : Nat) (qs : List PEv) (o2 : Option Addr) (c2 : Nat), s11 = .slice oq o.evs.length cq ∧ s12 = .slice o2 o.live.length c2 ∧ qs.length = o.evs.length ∧ Hid (qs.map (·.2) = o.evs.map (·.2)) ∧ Hid (Acc wa.heap.size 74 71 wx (.slice oq o.evs.length cq) qs) ∧ Hid (Owns icells 1 wa.heap.size 3 wx (.slice o2 o.live.length c2) o.live) ∧ Hid (Below wa.heap.size wa wx))
            case first =>
              have hlv2 := HLV1.out
              have HLW := Lib.hid (fun W (hW : Below wa.heap.size wa W) => hlv2.below icells_len (by decide) hW (Nat.le_refl _))
              have HBd := Lib.hid (below_drew (Below.refl wa.heap.size wa))
              clear hlv2
              go_region_law (first
                | (go_simp
                   refine (HCP.out _ (by first | exact HBd.out | exact HBd.out.alloc (Nat.le_refl _) _)).mono ?_
                   rintro e w5 ⟨oq, cq, qs, rfl, hql, hqm, hacc, hb5⟩
                   have hbw : Below wa.heap.size wa w5 := by first | exact HBd.out.trans hb5 | exact (HBd.out.alloc (Nat.le_refl _) _).trans (hb5.mono (by simp))
                   have HB5 := Lib.hid hb5
                   have HBW := Lib.hid hbw
                   have HQM := Lib.hid hqm
                   have HACC := Lib.hid hacc
                   have e2' : w5.cell? ⟨ob, 2, none⟩ = some (.slice o.ol o.live.length o.cl) := (hbw.cell (p := ⟨ob, 2, none⟩) hobs).trans e2
                   have hob5 : ob < w5.heap.size := Nat.lt_of_lt_of_le hobs hbw.size
                   clear hb5 hbw hqm hacc)
                | (refine step_appD icells 1 icells_len (by decide) icells_one _ rfl _ _ 37 rfl wa.heap.size 3 _ 8 Tryz.underlying37 infoInt rfl (.slice (some ⟨w5.heap.size, 0, none⟩) 0 0) [] rfl ((owns_made_int w5 _ rfl).lower HBW.out.size) (.slice o.ol o.live.length o.cl) o.live rfl (HLW.out _ (HBW.out.alloc HBW.out.size _)) (by simp only [List.length_nil]; omega) (by simp only [List.length_nil]; omega) (by have := HBW.out.size; simp; omega) ?_
                   intro v8 w8 h8 hg8 hv8 hd8
                   have hb8 : Below w5.heap.size w5 w8 := ((Below.refl _ _).alloc (Nat.le_refl _) _).grown hg8 (by simp) fun k hk => by simp [Value.ownBlock] at hk; omega
                   rw [List.nil_append] at h8
                   obtain ⟨o8, c8, rfl⟩ := slAt_slice h8.at
                   have H8 := Lib.hid h8
                   have HACC8 := Lib.hid ((HACC.out.below hb8 (Nat.le_refl _)).lower (B' := wa.heap.size) (by first | exact Nat.le_refl _ | simp))
                   have HB8 := Lib.hid (HBW.out.trans (hb8.mono HBW.out.size))
                   clear h8 hg8 hv8 hd8 hb8)
                | (refine step_appD icells 1 icells_len (by decide) icells_one _ rfl _ _ 37 rfl wa.heap.size 3 _ 8 Tryz.underlying37 infoInt rfl (.slice (some ⟨wa.heap.size, 0, none⟩) 0 0) [] rfl ((owns_made_int wa.drew _ rfl).below HB5.out (Nat.le_refl _)) (.slice o.ol o.live.length o.cl) o.live rfl (HLW.out _ HBW.out) (by simp only [List.length_nil]; omega) (by simp only [List.length_nil]; omega) (by have := HBW.out.size; omega) ?_
                   intro v8 w8 h8 hg8 hv8 hd8
                   have hb8 : Below wa.heap.size wa w8 := HBW.out.grown hg8 HBW.out.size fun k hk => by simp [Value.ownBlock] at hk; omega
                   rw [List.nil_append] at h8
                   obtain ⟨o8, c8, rfl⟩ := slAt_slice h8.at
                   have H8 := Lib.hid h8
                   have HACC8 := Lib.hid ((HACC.out.over (Over.of_grown (q := wa.heap.size) hg8 (by simp))).lower (B' := wa.heap.size) (by first | exact Nat.le_refl _ | simp))
                   have HB8 := Lib.hid hb8
                   clear h8 hg8 hv8 hd8 hb8))
              all_goals
                go_wp2_with fail
                go_meet
                exact ⟨oq, cq, qs, o8, c8, rfl, rfl, hql, HQM.out, HACC8.out, H8.out, HB8.out⟩
            case rest =>
              obtain ⟨oq, cq, qs, o2, c2, rfl, rfl, hql, HQM, HACC, HLIV, HBC⟩ := hcut
              have HPRc := Lib.hid (HPR1.out.on HBC.out)
              have HOPc := Lib.hid ((HBC.out.block ob hobs).trans HOP1.out)
              have hrem : ∀ p ∈ qs, p.2.rem.length ≤ 1000000 := fun p hp => by
                have h1 : p.2 ∈ qs.map (·.2) := List.mem_map_of_mem hp
                rw [HQM.out] at h1
                obtain ⟨z, hz, he⟩ := List.mem_map.1 h1
                have := HZ3.out z hz
                rw [← he]
                omega
              have hpl := plan_all ab c vs (seenA c hs) wc oq cq qs o2 c2 o.live o.work o.now o.tick HC.out ⟨hs0, hs1⟩ HPRc.out.obj (by rw [hql]; exact HACC.out.evs) (by omega) hrem HLIV.out.at (by omega)
              rw [hql, HQM.out] at hpl
              have hrf := fun W vs' ts' (hP : Pair ab rb (rb + 1) c i w W vs' rvs ts' hs) => refPlan_all o.oe o.ce o.evs o.ol o.cl o.live o.work o.now o.tick HC.out ⟨hs0, hs1⟩ (fun m => by have := hP.len m; omega) hP.ref hP.BW (HEV0.out.below hP.below (Nat.le_refl _)) (by omega) (fun p hp => by have := HZ3.out p hp; omega) (HLV0.out.below icells_len (by decide) hP.below (Nat.le_refl _)) (by omega)
              generalize planA c (seenA c hs) (o.evs.map (·.2)) o.live o.work o.now o.tick = r at *
              obtain ⟨⟨r1, r2⟩, ts2⟩ := r
              simp only at hpl hrf
              have HPL := Lib.hid hpl
              have HRF := Lib.hid hrf
              have HREM := Lib.hid hrem
              obtain ⟨_, _, e3, e4, e5⟩ := op_reads HOPc.out
              have hwac := HBC.out.size
              have habwa : ab < wa.heap.size := by omega
              have habob : ob ≠ ab := by omega
              clear hpl hrf hrem HPR HPR1 HOP1 HLV1 HCP e1 e2
              go_wp2_with fail
              refine HPL.out.mono ?_
              rintro e w5 ⟨rfl, ⟨vs2, ho5, hf5⟩, hg5⟩
              have HP5 := Lib.hid (HPRc.out.planned ho5 hf5 hg5)
              have HOP5 := Lib.hid (row_kept HOPc.out hg5 habob)
              have hov5 : Over wa.heap.size wc w5 := Over.of_grown hg5 habwa
              have HACC5 := Lib.hid (HACC.out.over hov5)
              have HLIV5 := Lib.hid (HLIV.out.over hov5)
              obtain ⟨e1, e2, e3', e4', e5'⟩ := op_reads HOP5.out
              have hz5 := hg5.size
              clear ho5 hf5 hg5 hov5 HPRc HOPc HACC HLIV HPL HBC e3 e4 e5
              go_wp2_with fail
              refine (HRF.out _ _ _ HP5.out).mono ?_
              rintro e w6 ⟨rfl, hpost⟩
              obtain ⟨rvs2, hs2, q, ho6, hse, hln, hfr, hb6, hq⟩ := hpost.ex
              have HP6 := Lib.hid (HP5.out.refplanned ho6 hln hfr hb6 hq)
              have hqb : ∀ k, q = some k → k < ob := fun k hk => by obtain ⟨m, hm, e⟩ := hq k hk; exact HRV.out m hm k e
              have HOP6 := Lib.hid (row_over HOP5.out (Over.of_but hb6 hrblt hqb) (Nat.le_refl _))
              have hov6 : Over wa.heap.size w5 w6 := Over.of_but hb6 (by omega) (fun k hk => by have := hqb k hk; omega)
              have HACC6 := Lib.hid (HACC5.out.over hov6)
              have HLIV6 := Lib.hid (HLIV5.out.over hov6)
              have HSE := Lib.hid hse
              obtain ⟨_, _, e3, _, _⟩ := op_reads HOP6.out
              clear hpost ho6 hse hln hfr hb6 hq hqb hov6 HP5 HOP5 HACC5 HLIV5 HRF e1 e2 e3' e4' e5'
              have hrc := recent_all ab c vs2 ts2 w6 o.work HP6.out.obj
              have hrl : (recentA ts2 o.work).length ≤ 16 := by
                unfold recentA
                split
                · rename_i hw
                  exact (HP6.out.obj.row _ (by unfold inW at hw; omega)).2.2
                · simp
              have hrr := fun W (hP : Pair ab rb (rb + 1) c (i + 1) w W vs2 rvs2 ts2 hs2) => refRecent_all o.work HC.out (fun m => by have := hP.len m; omega) hP.ref
              rw [HSE.out] at hrr
              generalize recentA ts2 o.work = rl at *
              have HRC := Lib.hid hrc
              have HRR := Lib.hid hrr
              clear hrc hrr
              go_wp2_with fail
              refine HRC.out.mono ?_
              rintro e w7 ⟨v7, rfl, ho7, hb7⟩
              obtain ⟨o7, c7, rfl⟩ := slAt_slice ho7.at
              have HP7 := Lib.hid (HP6.out.on hb7)
              have HO7 := Lib.hid ho7
              have HB7 := Lib.hid hb7
              have hop7 := (hb7.block ob (Array.getElem?_eq_some_iff.1 HOP6.out).1).trans HOP6.out
              have HOP7 := Lib.hid hop7
              have HACC7 := Lib.hid (HACC6.out.below hb7 (Nat.le_refl _))
              have HLIV7 := Lib.hid (HLIV6.out.below hb7 (Nat.le_refl _))
              obtain ⟨_, _, e3', _, _⟩ := op_reads hop7
              clear ho7 hb7 hop7 HOP6 HACC6 HLIV6 HRC e3
              go_wp2_with fail
              refine (HRR.out _ HP7.out).mono ?_
              rintro e w8 ⟨v8, rfl, ho8, hb8⟩
              obtain ⟨o8, c8, rfl⟩ := slAt_slice ho8.at
              have hb68 : Below w6.heap.size w6 w8 := HB7.out.trans (hb8.mono HB7.out.size)
              have hin := ints_any o7 o8 c7 c8 rl w8 (HO7.out.at.below icells_len (by decide) hb8 (Nat.le_refl _)) ho8.at (by omega)
              have HIN := Lib.hid hin
              have HB68 := Lib.hid hb68
              have HO8 := Lib.hid (HO7.out.below hb8 (Nat.le_refl _))
              have HP8 := Lib.hid (HP7.out.on hb8)
              have HACC8 := Lib.hid (HACC7.out.below hb8 (Nat.le_refl _))
              have HLIV8 := Lib.hid (HLIV7.out.below hb8 (Nat.le_refl _))
              have HOP8 := Lib.hid ((hb8.block ob (Array.getElem?_eq_some_iff.1 HOP7.out).1).trans HOP7.out)
              clear ho8 hb8 hb68 hin HO7 HP7 HACC7 HLIV7 HOP7 HB7 e3' HRR
              go_wp2_with fail
              refine HIN.out.mono ?_
              rintro e w9 ⟨rfl, q9, hw9⟩
              have hb9 : Below w8.heap.size w8 w9 := by rw [hw9]; exact below_drewN _ _
              have hop9 := (hb9.block ob (Array.getElem?_eq_some_iff.1 HOP8.out).1).trans HOP8.out
              have HOP9 := Lib.hid hop9
              have HP9 := Lib.hid (HP8.out.on hb9)
              have hac9 := HACC8.out.below hb9 (Nat.le_refl _)
              have hall := all_any oq o.oe cq o.ce qs o.evs w9 (by rw [hql]; exact hac9.evs) (by rw [hql]; exact HEV0.out.below HP9.out.below (Nat.le_refl _)) HQM.out (by omega) HREM.out
              rw [hql] at hall
              have HALL := Lib.hid hall
              have HO9 := Lib.hid (HO8.out.below hb9 (Nat.le_refl _))
              have HLIV9 := Lib.hid (HLIV8.out.below hb9 (Nat.le_refl _))
              have HB69 := Lib.hid (HB68.out.trans (hb9.mono HB68.out.size))
              obtain ⟨e1, _, _, _, _⟩ := op_reads hop9
              clear hw9 hb9 hop9 hac9 hall HIN HO8 HP8 HACC8 HLIV8 HOP8 HB68
              go_wp2_with fail
              refine HALL.out.mono ?_
              rintro e w10 ⟨rfl, hgr10⟩
              have hb10 := hgr10.below
              have hop10 := (hb10.block ob (Array.getElem?_eq_some_iff.1 HOP9.out).1).trans HOP9.out
              have HP10 := Lib.hid (HP9.out.on hb10)
              have hin2 := ints_any o2 o.ol c2 o.cl o.live w10 (HLIV9.out.at.below icells_len (by decide) hb10 (Nat.le_refl _)) (HLV0.out.below icells_len (by decide) HP10.out.below (Nat.le_refl _)) (by omega)
              have HIN2 := Lib.hid hin2
              have HO10 := Lib.hid (HO9.out.below hb10 (Nat.le_refl _))
              have HB610 := Lib.hid (HB69.out.trans (hb10.mono HB69.out.size))
              obtain ⟨_, e2, _, _, _⟩ := op_reads hop10
              clear hgr10 hb10 hop10 hin2 HALL HO9 HP9 HLIV9 HOP9 HB69 e1
              go_wp2_with fail
              refine HIN2.out.mono ?_
              rintro e w11 ⟨rfl, q11, hw11⟩
              have hb11 : Below w10.heap.size w10 w11 := by rw [hw11]; exact below_drewN _ _
              have HO11 := Lib.hid (HO10.out.below hb11 (Nat.le_refl _))
              have HB611 := Lib.hid (HB610.out.trans (hb11.mono HB610.out.size))
              obtain ⟨n, hn⟩ : ∃ n, rl.length = n := ⟨_, rfl⟩
              rw [hn] at HO11 hrl
              rw [hn]
              clear hw11 hb11 HIN2 HO10 HP10 HB610 e2
              go_wp2_with fail
              go_loopg [140] n (fun gk s140 wr => ∃ (j : Nat) (ll : List Int), s140 = .int .i64 j ∧ j ≤ n ∧ n - j ≤ gk ∧ ll.length = n ∧ Hid (Owns icells 1 w6.heap.size 3 wr (.slice o7 n c7) ll) ∧ Hid (Below w6.heap.size w6 wr))
              case atStart => exact ⟨0, rl, rfl, Nat.zero_le _, Nat.le_refl _, hn, HO11.out, HB611.out⟩
              case round =>
                obtain ⟨j, ll, rfl, hj, hgj, hlln, HOW, HBW⟩ := hrel
                by_cases hjl : j < n
                · have hjz : (j : Int) < (n : Int) := by omega
                  have how := HOW.out
                  obtain ⟨g, cc, hv, hbg, _⟩ := Ints.parts how (by intro e; rw [e] at hlln; simp at hlln; omega)
                  simp only [Value.slice.injEq] at hv
                  obtain ⟨rfl, _, rfl⟩ := hv
                  have c1 := how.cellI j (by omega)
                  have z1 := how.freeI j
                  have HTU := Lib.hid (how.turn j (-1) (by omega))
                  have HBT := Lib.hid (HBW.out.setCell (p := ⟨g, j, none⟩) hbg (.int .i64 (-1)))
                  have hl2 : (ll.set j (-1)).length = n := by rw [List.length_set]; exact hlln
                  have HL2 := Lib.hid hl2
                  clear how hl2 hlln hn hbg HOW HBW
                  generalize ll.getD j 0 = old at c1
                  go_wp2_with fail
                  go_roundg (n - (j + 1))
                  case measure => omega
                  case rel => exact ⟨j + 1, ll.set j (-1), by go_num, by omega, Nat.le_refl _, HL2.out, HTU.out, HBT.out⟩
                · have hjz : ¬ (j : Int) < (n : Int) := by omega
                  obtain rfl : j = n := by omega
                  have HPE := Lib.hid (HP6.out.on HBW.out)
                  clear HOW HBW
                  go_wp2_with fail
                  go_roundg (l.length - (i + 1))
                  case measure => omega
                  case rel => exact ⟨i + 1, vs2, rvs2, hs2, by go_num, by omega, Nat.le_refl _, by rw [HSE.out]; exact HPE.out⟩
        · have hltz : ¬ (i : Int) < (l.length : Int) := by omega
          go_wp2_with fail
          go_ret
          exact ⟨rfl, HPR.out.below⟩
    · have hnw := actNew_wrong c hc w2
      have hnr := fun W => refNew_wrong c hc W
      have HNW := Lib.hid hnw
      have HNR := Lib.hid hnr
      clear hnw hc hnr
      go_wp2_with fail
      refine HNW.out.mono ?_
      rintro e w3 ⟨rfl, hb3⟩
      have HB3 := Lib.hid (HB2.out.trans (hb3.mono HB2.out.size))
      have hrow3 := (hb3.block _ hwlt2).trans HROW2.out
      clear hb3 m0 m1 m2 m3
      have m0 : w3.cell? ⟨w.heap.size, 0, none⟩ = some (.int .i64 c.self) := cell_of_row _ _ 0 _ _ _ hrow3
      have m1 : w3.cell? ⟨w.heap.size, 1, none⟩ = some (.int .i64 c.window) := cell_of_row _ _ 1 _ _ _ hrow3
      have m2 : w3.cell? ⟨w.heap.size, 2, none⟩ = some (.int .i64 c.keep) := cell_of_row _ _ 2 _ _ _ hrow3
      have m3 : w3.cell? ⟨w.heap.size, 3, none⟩ = some (.int .u64 c.salt) := cell_of_row _ _ 3 _ _ _ hrow3
      clear hrow3
      go_wp2_with fail
      refine (HNR.out _).mono ?_
      rintro e w4 ⟨rfl, hb4⟩
      have HB4 := Lib.hid (HB3.out.trans (hb4.mono HB3.out.size))
      clear hb4
      go_wp2_with fail
      go_ret
      exact ⟨rfl, HB4.out⟩
end Go.Proofs.YtjgbflclhkeibaaGreat
