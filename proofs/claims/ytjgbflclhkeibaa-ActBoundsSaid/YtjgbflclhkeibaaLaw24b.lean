/-
  ActBounds walked: who doesn't own it never plans; a plan is within its bounds, and isn't lowered below what was wished of late.
-/
import Derived.Test.YtjgbflclhkeibaaMAllP
import Derived.Test.YtjgbflclhkeibaaMRef07
namespace Go.Proofs.Ytjgbflclhkeibaa
open Go.Shelf Go.RowKit Go.Lib Go.Sort
set_option linter.unusedVariables false
theorem row_kept {W W' : World} {q ab : Nat} {o : Obj} (h : W.heap[q]? = some o) (hg : W.grownBy W' (some ab)) (hne : q ≠ ab) : W'.heap[q]? = some o :=
  (hg.block q (Array.getElem?_eq_some_iff.1 h).1 (fun e => hne (Option.some.inj e))).trans h
theorem doneA_wished (ts : Nat → Trk) (work tick : Int) (n : Nat) : ((doneA ts work tick).2 n).wished = (ts n).wished := by
  unfold doneA
  split
  · show (upd ts work.toNat ⟨(ts work.toNat).wished, true, tick⟩ n).wished = _
    unfold upd
    split
    · subst_vars; rfl
    · rfl
  · rfl
theorem setsOf_win (ps : List PEv) (work : Int) {lw : List Ev} (h : stableOf evLater ((ps.map (·.2)).filter (isSet work)) lw) : lw = setsOf (ps.map (·.2)) work := stSort_eq swo_evLater h
def ccells (c : ACfg) : Array Value := #[.int .i64 c.self, .int .i64 c.window, .int .i64 c.keep, .int .u64 c.salt]
set_option maxRecDepth 100000 in
set_option maxHeartbeats 16000000 in
theorem actBounds_any (c : ACfg) (oa : Option Addr) (cap : Nat) (l : List AOp) (w : World) (hs0 : 0 ≤ c.salt) (hs1 : c.salt < 18446744073709551616) (h : OpsAt w (.slice oa l.length cap) l) (hl : l.length ≤ 1000000000000000) (hf : ∀ o ∈ l, o.sized) :
    Calls Try.prog 4 #[.agg #[.int .i64 c.self, .int .i64 c.window, .int .i64 c.keep, .int .u64 c.salt], .slice oa l.length cap] w fun e w' => e = .returned (.bool true) ∧ Below w.heap.size w w' := by
  have hal := fun W => alive24_any W
  have HAL := Lib.hid hal
  have HE := Lib.hid h
  have HF := Lib.hid hf
  have hgr := fun W (hW : Below w.heap.size w W) => greatOps_any oa cap l W (h.below hW) hl hf
  have HGR := Lib.hid hgr
  obtain ⟨gb, hgb⟩ : ∃ g, greatOps l = g := ⟨_, rfl⟩
  rw [hgb] at HGR
  have HGB := Lib.hid hgb
  clear hal h hf hgr hgb
  go_enter Try.func4, Try.ntmps4
  go_wp2_with fail
  refine (HAL.out _).mono ?_
  rintro e w1 ⟨rfl, hb1⟩
  have hrow : w1.heap[w.heap.size]? = some (.cells (ccells c) 47) := (hb1.block _ (by simp)).trans (heap_alloc_new w _)
  have HB1 := Lib.hid (((Below.refl w.heap.size w).alloc (Nat.le_refl _) (.cells (ccells c) 47)).trans (hb1.mono (by simp)))
  have hwlt : w.heap.size < w1.heap.size := (Array.getElem?_eq_some_iff.1 hrow).1
  have HROW := Lib.hid hrow
  clear hb1 hrow
  cases gb with
  | true =>
    go_wp2_with fail
    refine (HGR.out _ HB1.out).mono ?_
    rintro e w2 ⟨rfl, hb2⟩
    have HB2 := Lib.hid (HB1.out.trans (hb2.mono HB1.out.size))
    clear hb2
    go_wp2_with fail
    go_ret
    exact ⟨rfl, HB2.out⟩
  | false =>
    obtain ⟨hl60, hsz⟩ := greatOps_not HGB.out
    have HSZ := Lib.hid hsz
    clear hsz
    go_wp2_with fail
    refine (HGR.out _ HB1.out).mono ?_
    rintro e w2 ⟨rfl, hb2⟩
    have HB2 := Lib.hid (HB1.out.trans (hb2.mono HB1.out.size))
    have HROW2 := Lib.hid ((hb2.block _ hwlt).trans HROW.out)
    have hwlt2 : w.heap.size < w2.heap.size := Nat.lt_of_lt_of_le hwlt hb2.size
    have m0 : w2.cell? ⟨w.heap.size, 0, none⟩ = some (.int .i64 c.self) := cell_of_row _ _ 0 _ _ _ HROW2.out
    have m1 : w2.cell? ⟨w.heap.size, 1, none⟩ = some (.int .i64 c.window) := cell_of_row _ _ 1 _ _ _ HROW2.out
    have m2 : w2.cell? ⟨w.heap.size, 2, none⟩ = some (.int .i64 c.keep) := cell_of_row _ _ 2 _ _ _ HROW2.out
    have m3 : w2.cell? ⟨w.heap.size, 3, none⟩ = some (.int .u64 c.salt) := cell_of_row _ _ 3 _ _ _ HROW2.out
    clear hb2 HB1 HROW hwlt HAL HGR
    by_cases hc : c.right
    · have hnw := actNew_right c hc w2
      have HNW := Lib.hid hnw
      have HC := Lib.hid hc
      clear hnw hc
      go_wp2_with fail
      refine HNW.out.mono ?_
      rintro e w3 ⟨ab, rfl, hab, ha, hb3⟩
      have HA3 := Lib.hid ha
      have HB3 := Lib.hid (HB2.out.trans (hb3.mono HB2.out.size))
      have HROW3 := Lib.hid ((hb3.block _ hwlt2).trans HROW2.out)
      have hwlt3 : w.heap.size < w3.heap.size := Nat.lt_of_lt_of_le hwlt2 hb3.size
      have hwab : w.heap.size < ab := by omega
      have habl := ha.lt
      clear ha hb3 HB2 HROW2 m0 m1 m2 m3 HNW
      go_wp2_with fail
      go_loopg [33] l.length (fun gk s33 wr => ∃ (i : Nat) (vs : Nat → Value) (ts : Nat → Trk), s33 = .int .i64 i ∧ i ≤ l.length ∧ l.length - i ≤ gk ∧ Hid (AObj ab wr c vs ts) ∧ Hid (∀ n, ((ts n).wished.length : Int) ≤ c.keep) ∧ Hid (w3.grownBy wr (some ab)))
      case atStart => exact ⟨0, _, _, rfl, Nat.zero_le _, Nat.le_refl _, HA3.out, fun n => by have := HC.out; unfold ACfg.right at this; simp [Trk.none]; omega, World.grownBy.refl _ _⟩
      case round =>
        obtain ⟨i, vs, ts, rfl, hi, hg, HA, HLEN, HG⟩ := hrel
        have hB := below_grown HB3.out HG.out (by omega) (by omega)
        have HB := Lib.hid hB
        clear hB
        by_cases hlt : i < l.length
        · have hltz : (i : Int) < (l.length : Int) := by omega
          have hsl := HE.out.below HB.out
          obtain ⟨b, off, rfl⟩ := hsl.1.plain AOp.cells_len (by decide) (by intro e; rw [e] at hlt; exact absurd hlt (by simp))
          obtain ⟨o, hp, hmem, hev, hlv, d0, d1, d2, d3, d4, d5⟩ := hsl.op i hlt
          obtain ⟨hz1, hz2, hz3⟩ := HSZ.out o hmem
          have HEV := Lib.hid hev
          have HLV := Lib.hid hlv
          have HLV0 := Lib.hid (HE.out.2 o hmem).2
          have HEV0 := Lib.hid (HE.out.2 o hmem).1
          have HZ3 := Lib.hid hz3
          have hawr := HA.out.lt
          obtain ⟨dn, hdn⟩ : ∃ x, o.done = x := ⟨_, rfl⟩
          rw [hdn] at d0
          clear hsl hp hmem hev hlv hz3 hdn
          cases dn with
          | true =>
            have hdo := fun W (hW : Below wr.heap.size wr W) => done_all ab c vs ts W o.work o.tick (HA.out.below hW)
            have HDO := Lib.hid hdo
            clear hdo
            go_wp2_with fail
            refine (HDO.out _ ((Below.refl _ _).alloc (Nat.le_refl _) _)).mono ?_
            rintro e w5 ⟨rfl, ho5, hg5⟩
            have HO5 := Lib.hid ho5
            have HG5 := Lib.hid ((HG.out.trans (World.grownBy_alloc _ _ _)).trans hg5)
            have HLEN5 := Lib.hid (show ∀ n, ((((doneA ts o.work o.tick).2 n).wished.length : Nat) : Int) ≤ c.keep from fun n => by rw [doneA_wished]; exact HLEN.out n)
            clear ho5 hg5 HDO
            go_wp2_with fail
            go_roundg (l.length - (i + 1))
            case measure => omega
            case rel => exact ⟨i + 1, vs, _, by go_num, by omega, Nat.le_refl _, HO5, HLEN5, HG5⟩
          | false =>
            have hrc := fun W (hW : Below wr.heap.size wr W) => recent_all ab c vs ts W o.work (HA.out.below hW)
            have hwl := recentA_len HLEN.out HC.out o.work
            have hco := planA_comes c HC.out ts HLEN.out (o.evs.map (·.2)) o.live o.work o.now o.tick
            have hpl := fun W (hW : Below wr.heap.size wr W) => plan_all ab c vs ts W o.oe o.ce o.evs o.ol o.cl o.live o.work o.now o.tick HC.out ⟨hs0, hs1⟩ (HA.out.below hW) (HEV.out.below hW (Nat.le_refl _)) (by omega) (fun p hp => by have := HZ3.out p hp; omega) (HLV.out.below icells_len (by decide) hW (Nat.le_refl _)) (by omega)
            have how := fun W (hW : SlAt icells W (.slice o.ol o.live.length o.cl) o.live) => owner_any o.ol o.cl o.live o.work c.salt hs0 hs1 W hW (by omega)
            obtain ⟨r, hr⟩ : ∃ r, planA c ts (o.evs.map (·.2)) o.live o.work o.now o.tick = r := ⟨_, rfl⟩
            rw [hr] at hco hpl
            obtain ⟨⟨r1, r2⟩, ts2⟩ := r
            obtain ⟨was, hwas⟩ : ∃ x, recentA ts o.work = x := ⟨_, rfl⟩
            rw [hwas] at hrc hwl hco
            have HWAS := Lib.hid hwas
            have hck := HC.out
            unfold ACfg.right at hck
            have HRC := Lib.hid hrc
            have HCO := Lib.hid hco
            have HPL := Lib.hid hpl
            have HOW := Lib.hid how
            clear hrc hco hpl how hr hwas
            go_wp2_with fail
            refine (HRC.out _ ((Below.refl _ _).alloc (Nat.le_refl _) _)).mono ?_
            rintro e w5 ⟨v5, rfl, ho5, hb5⟩
            obtain ⟨o5, c5, rfl⟩ := slAt_slice ho5.at
            have hop5 := (hb5.block _ (by simp)).trans (heap_alloc_new wr (.cells #[.bool false, .slice o.oe o.evs.length o.ce, .slice o.ol o.live.length o.cl, .int .i64 o.work, .int .i64 o.now, .int .i64 o.tick] 51))
            have HB5 := Lib.hid (((Below.refl wr.heap.size wr).alloc (Nat.le_refl _) (.cells #[.bool false, .slice o.oe o.evs.length o.ce, .slice o.ol o.live.length o.cl, .int .i64 o.work, .int .i64 o.now, .int .i64 o.tick] 51)).trans (hb5.mono (by simp)))
            have hoa5 : (Value.slice o5 was.length c5).ownBlock ≠ some ab := fun e => by have := ho5.lt _ e; simp at this; omega
            have HSW5 := Lib.hid ho5.at
            have HOP5 := Lib.hid hop5
            have hobab : wr.heap.size ≠ ab := by omega
            have e1 := cell_of_row _ _ 1 _ _ _ hop5
            have e2 := cell_of_row _ _ 2 _ _ _ hop5
            have e3 := cell_of_row _ _ 3 _ _ _ hop5
            have e4 := cell_of_row _ _ 4 _ _ _ hop5
            have e5 := cell_of_row _ _ 5 _ _ _ hop5
            simp only [List.getElem?_toArray, List.getElem?_cons_succ, List.getElem?_cons_zero] at e1 e2 e3 e4 e5
            clear ho5 hb5 hop5 HRC d0 d1 d2 d3 d4 d5
            go_wp2_with fail
            refine (HPL.out _ HB5.out).mono ?_
            rintro e w6 ⟨rfl, ⟨vs2, ho6⟩, hg6⟩
            have HG6 := Lib.hid ((HG.out.trans (grown_of_below HB5.out _)).trans hg6)
            have hwg6 := (grown_of_below HB5.out (some ab)).trans hg6
            have HWG6 := Lib.hid hwg6
            have HSW6 := Lib.hid (HSW5.out.grown icells_len (by decide) hg6 (.inr hoa5))
            have hop6 := row_kept HOP5.out hg6 hobab
            have HOP6 := Lib.hid hop6
            have hrc2 := recent_all ab c vs2 ts2 w6 o.work ho6
            have HRC2 := Lib.hid hrc2
            have HO6 := Lib.hid ho6
            have hwl2 := recentA_len HCO.out.1 HC.out o.work
            obtain ⟨nowl, hnowl⟩ : ∃ x, recentA ts2 o.work = x := ⟨_, rfl⟩
            rw [hnowl] at hwl2 HRC2
            have HNOW := Lib.hid hnowl
            clear e1 e2 e3 e4 e5 ho6 hg6 hwg6 HPL HSW5 HOP5 hrc2 hnowl
            have e3 := cell_of_row _ _ 3 _ _ _ hop6
            simp only [List.getElem?_toArray, List.getElem?_cons_succ, List.getElem?_cons_zero] at e3
            clear hop6
            go_wp2_with fail
            refine HRC2.out.mono ?_
            rintro e w7 ⟨v7, rfl, ho7, hb7⟩
            obtain ⟨o7, c7, rfl⟩ := slAt_slice ho7.at
            have HG7 := Lib.hid (HG6.out.trans (grown_of_below hb7 _))
            have HWG7 := Lib.hid (HWG6.out.trans (grown_of_below hb7 _))
            have HSW7 := Lib.hid (HSW6.out.below icells_len (by decide) hb7 (Nat.le_refl _))
            have HSN7 := Lib.hid ho7.at
            have HO7 := Lib.hid (HO6.out.below hb7)
            have hop7 := row_kept HOP6.out (grown_of_below hb7 (some ab)) hobab
            have HOP7 := Lib.hid hop7
            have hcf7 := row_kept HROW3.out HG7.out (by omega)
            have e2 := cell_of_row _ _ 2 _ _ _ hop7
            have f3 := cell_of_row _ _ 3 _ _ _ hcf7
            simp only [ccells, List.getElem?_toArray, List.getElem?_cons_succ, List.getElem?_cons_zero] at e2 f3
            clear e3 ho7 hb7 hop7 HO6 HSW6 HOP6 HRC2 hcf7
            have e3 := cell_of_row _ _ 3 _ _ _ HOP7.out
            simp only [List.getElem?_toArray, List.getElem?_cons_succ, List.getElem?_cons_zero] at e3
            go_wp2_with fail
            have hlv7 := HLV0.out.below icells_len (by decide) (below_grown HB3.out HG7.out (by omega) (by omega)) (Nat.le_refl _)
            refine (HOW.out _ hlv7).mono ?_
            rintro e w8 ⟨lo, hlo, rfl, hb8⟩
            obtain rfl : lo = rk o.live o.work c.salt := hlo.eq (rk_ranks _ _ _) rfl
            have herr := own_err (rk o.live o.work c.salt)
            have hcm := HCO.out.2
            unfold Comes at hcm
            have HLE2 := Lib.hid HCO.out.1
            obtain ⟨xg, hxg⟩ : ∃ xg, own (rk o.live o.work c.salt) = xg := ⟨_, rfl⟩
            rw [hxg] at hcm herr ⊢
            obtain ⟨x, g⟩ := xg
            have HG8 := Lib.hid (HG7.out.trans (grown_of_below hb8 _))
            have HSW8 := Lib.hid (HSW7.out.below icells_len (by decide) hb8 (Nat.le_refl _))
            have HSN8 := Lib.hid (HSN7.out.below icells_len (by decide) hb8 (Nat.le_refl _))
            have HO8 := Lib.hid (HO7.out.below hb8)
            have hop8 := row_kept HOP7.out (grown_of_below hb8 (some ab)) hobab
            have HOP8 := Lib.hid hop8
            have hcf8 := row_kept HROW3.out HG8.out (by omega)
            clear e2 f3 e3 hlo hb8 hlv7 HSW7 HSN7 HO7 HOP7 HOW HCO hxg
            have e1 := cell_of_row _ _ 1 _ _ _ hop8
            have e3 := cell_of_row _ _ 3 _ _ _ hop8
            have e4 := cell_of_row _ _ 4 _ _ _ hop8
            have f0 := cell_of_row _ _ 0 _ _ _ hcf8
            have f2 := cell_of_row _ _ 2 _ _ _ hcf8
            simp only [ccells, List.getElem?_toArray, List.getElem?_cons_succ, List.getElem?_cons_zero] at e1 e3 e4 f0 f2
            have hob8 : wr.heap.size < w8.heap.size := (Array.getElem?_eq_some_iff.1 hop8).1
            clear hop8 hcf8
            have hkb : decide ((nowl.length : Int) > c.keep) = false := decide_eq_false (by omega)
            have hkb2 : (nowl.length : Int) ≤ c.keep := hwl2
            rcases hcm with ⟨rfl, hown, e, se, hset, hpr, q0, q1, hne, hup, hdn, hlow⟩ | ⟨rfl, rfl, hown⟩ | ⟨rfl, hf0, hf15, rfl, hown⟩
            · simp only [Prod.mk.injEq] at hown
              obtain ⟨rfl, rfl⟩ := hown
              have hwn := winner_any o.oe o.ce o.evs o.work w8 (HEV0.out.below (below_grown HB3.out HG8.out (by omega) (by omega)) (Nat.le_refl _)) (by omega) (fun p hp => by have := HZ3.out p hp; omega)
              have HWN := Lib.hid hwn
              have HSET := Lib.hid hset
              have HLOW := Lib.hid hlow
              have hneb : (r1 == o.now) = false := by simp [hne]
              have hgg := hpr
              unfold Pol.right at hgg
              have hw1 : wrap64 (o.now + e.pol.up) = o.now + e.pol.up := by unfold wrap64; omega
              have hw2 : wrap64 (o.now - e.pol.down) = o.now - e.pol.down := by unfold wrap64; omega
              have hu1 : decide (r1 > o.now + e.pol.up) = false := decide_eq_false (by omega)
              have hu2 : decide (r1 < o.now - e.pol.down) = false := decide_eq_false (by omega)
              clear hwn hset hlow hpr hgg hne hup hdn herr
              go_wp2_with fail
              refine HWN.out.mono ?_
              rintro ee w9 ⟨lw, hst, rfl, hb9⟩
              obtain rfl : lw = e :: se := by rw [← HSET.out]; exact stSort_eq swo_evLater hst
              have HG9 := Lib.hid (HG8.out.trans (grown_of_below hb9 _))
              have HSW9 := Lib.hid (HSW8.out.below icells_len (by decide) hb9 (Nat.le_refl _))
              have HO9 := Lib.hid (HO8.out.below hb9)
              have hop9 := row_kept HOP8.out (grown_of_below hb9 (some ab)) hobab
              have e4 := cell_of_row _ _ 4 _ _ _ hop9
              simp only [List.getElem?_toArray, List.getElem?_cons_succ, List.getElem?_cons_zero] at e4
              have hob9 : wr.heap.size < w9.heap.size := (Array.getElem?_eq_some_iff.1 hop9).1
              clear hst hb9 hop9 HSW8 HSN8 HO8 HWN f0 f2
              simp only [winV]
              go_wp2_with fail
              have hb10 : Below w9.heap.size w9 ((w9.alloc (.cells #[.int .i64 e.pol.mn, .int .i64 e.pol.mx, .int .i64 e.pol.goal, .int .i64 e.pol.slack, .int .i64 e.pol.up, .int .i64 e.pol.down, .int .i64 e.pol.cool] 31)).alloc (.cells #[.int .i64 e.dot.node, .int .i64 e.dot.seq] 33)) := ((Below.refl _ _).alloc (Nat.le_refl _) _).alloc (by simp) _
              have HG10 := Lib.hid (HG9.out.trans (grown_of_below hb10 _))
              have HSW10 := Lib.hid (HSW9.out.below icells_len (by decide) hb10 (Nat.le_refl _))
              have HO10 := Lib.hid (HO9.out.below hb10)
              have e4b : ((w9.alloc (.cells #[.int .i64 e.pol.mn, .int .i64 e.pol.mx, .int .i64 e.pol.goal, .int .i64 e.pol.slack, .int .i64 e.pol.up, .int .i64 e.pol.down, .int .i64 e.pol.cool] 31)).alloc (.cells #[.int .i64 e.dot.node, .int .i64 e.dot.seq] 33)).cell? ⟨wr.heap.size, 4, none⟩ = some (.int .i64 o.now) := (hb10.cell (p := ⟨wr.heap.size, 4, none⟩) hob9).trans e4
              clear hb10 HG9 HSW9 HO9 e4 HOP8 e1 e3 hob8 hob9 hneb hw1 hw2 hu1 hu2 HEV HLV HG HG6 HWG6 HG7 HWG7 HG8 HLEN HWAS HNOW hkb hkb2
              generalize ((w9.alloc (.cells #[.int .i64 e.pol.mn, .int .i64 e.pol.mx, .int .i64 e.pol.goal, .int .i64 e.pol.slack, .int .i64 e.pol.up, .int .i64 e.pol.down, .int .i64 e.pol.cool] 31)).alloc (.cells #[.int .i64 e.dot.node, .int .i64 e.dot.seq] 33)) = w10 at *
              generalize wr.heap.size = ob at *
              go_loopg [152] was.length (fun gk s152 wr => ∃ (j : Nat), s152 = .int .i64 j ∧ j ≤ was.length ∧ was.length - j ≤ gk ∧ wr = w10)
              case atStart => exact ⟨0, rfl, Nat.zero_le _, Nat.le_refl _, rfl⟩
              case round =>
                obtain ⟨j, rfl, hj, hgj, rfl⟩ := hrel
                by_cases hjl : j < was.length
                · have hjz : (j : Int) < (was.length : Int) := by omega
                  have hsw := HSW10.out
                  obtain ⟨b5, off5, rfl⟩ := hsw.plain icells_len (by decide) (by intro e; rw [e] at hjl; exact absurd hjl (by simp))
                  have c1 : wr.cell? ⟨b5, off5 + j, none⟩ = some (.int .i64 (was[j]'hjl)) := by
                    have := hsw.cell icells_len (i := j) (c := 0) hjl (by decide)
                    simpa [icells] using this
                  have hlx := fun hh => HLOW.out hh (was[j]'hjl) (List.getElem_mem hjl)
                  generalize was[j]'hjl = z at *
                  obtain ⟨y1, hy1⟩ : ∃ y, decide (r1 < o.now) = y := ⟨_, rfl⟩
                  obtain ⟨y2, hy2⟩ : ∃ y, decide (r1 < z) = y := ⟨_, rfl⟩
                  have hys : y1 = false ∨ (y1 = true ∧ y2 = false) := by
                    cases y1 with
                    | false => exact .inl rfl
                    | true => exact .inr ⟨rfl, by rw [← hy2]; have := hlx (of_decide_eq_true hy1); exact decide_eq_false (by omega)⟩
                  clear hsw hlx
                  rcases hys with rfl | ⟨rfl, rfl⟩
                  · go_wp2_with fail
                    go_roundg (was.length - (j + 1))
                    case measure => omega
                    case rel => exact ⟨j + 1, by go_num, by omega, Nat.le_refl _, rfl⟩
                  · go_wp2_with fail
                    go_roundg (was.length - (j + 1))
                    case measure => omega
                    case rel => exact ⟨j + 1, by go_num, by omega, Nat.le_refl _, rfl⟩
                · have hjz : ¬ (j : Int) < (was.length : Int) := by omega
                  go_wp2_with fail
                  go_roundg (l.length - (i + 1))
                  case measure => omega
                  case rel => exact ⟨i + 1, vs2, ts2, by go_num, by omega, Nat.le_refl _, HO10.out, HLE2.out, HG10.out⟩
            · simp only [Prod.mk.injEq] at hown
              obtain ⟨rfl, rfl⟩ := hown
              go_wp2_with fail
              go_roundg (l.length - (i + 1))
              case measure => omega
              case rel => exact ⟨i + 1, vs2, ts2, by go_num, by omega, Nat.le_refl _, HO8.out, HLE2.out, HG8.out⟩
            · obtain rfl : nowl = was := by rw [← HNOW.out, ← HWAS.out]
              have hf0b : (r2 != 0) = true := by simp [hf0]
              have hf15b : (r2 != 15) = true := by simp [hf15]
              have hin := ints_any o5 o7 c5 c7 nowl w8 HSW8.out HSN8.out (by omega)
              have HIN := Lib.hid hin
              clear hin
              by_cases hox : (x, g) = (c.self, (0 : Int))
              · simp only [Prod.mk.injEq] at hox
                obtain ⟨rfl, rfl⟩ := hox
                clear hown herr hf0 hf15
                go_wp2_with fail
                refine HIN.out.mono ?_
                rintro e w9 ⟨rfl, q9, rfl⟩
                go_wp2_with fail
                go_roundg (l.length - (i + 1))
                case measure => omega
                case rel => exact ⟨i + 1, vs2, ts2, by go_num, by omega, Nat.le_refl _, HO8.out.below (below_drewN _ _), HLE2.out, HG8.out.trans (grown_of_below (below_drewN _ _) _)⟩
              · have hr2 : r2 = 12 ∨ r2 = 2 := by
                  rcases hown with h | h
                  · exact absurd h hox
                  · exact h
                have hxs : g = 8 ∨ (g = 0 ∧ (x != c.self) = true) := by
                  rcases herr with h | h
                  · refine .inr ⟨h, ?_⟩
                    simp only at h
                    rw [h] at hox
                    simpa using hox
                  · exact .inl h
                clear hown herr hf0 hf15 hox hf0b hf15b
                rcases hxs with rfl | ⟨rfl, hxb⟩ <;> rcases hr2 with rfl | rfl
                all_goals
                  go_wp2_with fail
                  refine HIN.out.mono ?_
                  rintro e w9 ⟨rfl, q9, rfl⟩
                  go_wp2_with fail
                  go_roundg (l.length - (i + 1))
                  case measure => omega
                  case rel => exact ⟨i + 1, vs2, ts2, by go_num, by omega, Nat.le_refl _, HO8.out.below (below_drewN _ _), HLE2.out, HG8.out.trans (grown_of_below (below_drewN _ _) _)⟩
        · have hltz : ¬ (i : Int) < (l.length : Int) := by omega
          go_wp2_with fail
          go_ret
          exact ⟨rfl, HB.out⟩
    · have hnw := actNew_wrong c hc w2
      have HNW := Lib.hid hnw
      clear hnw hc
      go_wp2_with fail
      refine HNW.out.mono ?_
      rintro e w3 ⟨rfl, hb3⟩
      have HB3 := Lib.hid (HB2.out.trans (hb3.mono HB2.out.size))
      clear hb3
      go_wp2_with fail
      go_ret
      exact ⟨rfl, HB3.out⟩
end Go.Proofs.Ytjgbflclhkeibaa
