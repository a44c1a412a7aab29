/-
  The reference's Great, Copy, Copies, and Dots, Same, All where both sides are the same.
  great walked: whether steps are more than are looked at.
  Plain facts on what a plan may be. No function of the program is entered.
-/
import Derived.Test.YtjgbflclhkeibaaMEv
import Derived.Test.YtjgbflclhkeibaaMCmp
import Derived.Deep.QuietTactic
import Derived.BigQuiet
import Derived.Test.YtjgbflclhkeibaaMOpen
import Derived.Test.YtjgbflclhkeibaaMAllP
namespace Go.Proofs.Ytjgbflclhkeibaa
open Go.Shelf Go.RowKit Go.Lib Go.Sort
set_option linter.unusedVariables false

def bulk : List Ev → Nat
  | [] => 0
  | e :: l => 1 + e.rem.length + bulk l
theorem bulk_append (a b : List Ev) : bulk (a ++ b) = bulk a + bulk b := by
  induction a with
  | nil => simp [bulk]
  | cons x a ih => simp only [List.cons_append, bulk, ih]; omega
theorem bulk_len (l : List Ev) : l.length ≤ bulk l := by
  induction l with
  | nil => simp [bulk]
  | cons x a ih => simp only [List.length_cons, bulk]; omega
theorem bulk_mem (l : List Ev) (e : Ev) (h : e ∈ l) : e.rem.length ≤ bulk l := by
  induction l with
  | nil => cases h
  | cons x a ih =>
    simp only [bulk]
    rcases List.mem_cons.1 h with rfl | h
    · omega
    · have := ih h; omega
theorem bulk_take (ps : List PEv) (i : Nat) (p : PEv) (hp : ps[i]? = some p) : bulk ((ps.take (i + 1)).map (·.2)) = bulk ((ps.take i).map (·.2)) + (1 + p.2.rem.length) := by
  rw [List.take_succ_eq_append_getElem (List.getElem?_eq_some_iff.1 hp).1, (List.getElem?_eq_some_iff.1 hp).2, List.map_append, bulk_append]
  simp [bulk]
theorem bulk_le (ps : List PEv) (i : Nat) : bulk ((ps.take i).map (·.2)) ≤ bulk (ps.map (·.2)) := by
  have : ps.map (·.2) = (ps.take i).map (·.2) ++ (ps.drop i).map (·.2) := by rw [← List.map_append, List.take_append_drop]
  rw [this, bulk_append]; omega

set_option maxHeartbeats 4000000 in
theorem great_any (oa : Option Addr) (cap : Nat) (ps : List PEv) (w : World) (h : EvsAt w (.slice oa ps.length cap) ps) (hl : ps.length ≤ 1099511627776) (hr : ∀ p ∈ ps, p.2.rem.length ≤ 8796093022208) :
    Calls Try.prog 25 #[.slice oa ps.length cap] w fun e w' => e = .returned (.bool (decide (3000 < bulk (ps.map (·.2))))) ∧ Below w.heap.size w w' := by
  have HE := Lib.hid h
  have HR := Lib.hid hr
  clear h hr
  go_enter Try.func25, Try.ntmps25
  go_wp2_with fail
  go_loopg [3, 8] ps.length (fun gk s3 s8 wr => ∃ (i : Nat) (n : Int), s8 = .int .i64 i ∧ s3 = .int .i64 n ∧ i ≤ ps.length ∧ ps.length - i ≤ gk ∧ 0 ≤ n ∧ n ≤ 3000 ∧ Hid (n = (bulk ((ps.take i).map (·.2)) : Nat)) ∧ Hid (Below w.heap.size w wr))
  case atStart => exact ⟨0, 0, rfl, rfl, Nat.zero_le _, Nat.le_refl _, by decide, by decide, by show _ = _; simp [bulk], Below.refl _ _⟩
  case round =>
    obtain ⟨i, n, rfl, rfl, hi, hg, hn0, hn1, HN, HB⟩ := hrel
    by_cases hlt : i < ps.length
    · have hltz : (i : Int) < (ps.length : Int) := by omega
      have hsl : SlAt pcells wr (.slice oa ps.length cap) ps := HE.out.1.below pcells_len (by decide) HB.out (Nat.le_refl _)
      obtain ⟨b, off, rfl⟩ := slAt_some hsl i hlt
      obtain ⟨ra, rn, rc, ev, hp, c0, c1, c2, c3, c4, c5, c6, c7, c8, c9, c10, c11, c12, c13⟩ := hsl.ev i hlt
      have hmem : (⟨⟨ra, rn, rc⟩, ev⟩ : PEv) ∈ ps := List.mem_of_getElem? hp
      have hrl : ev.rem.length ≤ 8796093022208 := HR.out _ hmem
      have hrn : rn = ev.rem.length := by
        obtain ⟨_, _, hv, _⟩ := (HE.out.2 _ hmem).slice_of
        simp only [Hdr.val, Value.slice.injEq] at hv
        exact hv.2.1
      subst hrn
      have hbt := bulk_take ps i _ hp
      have hble := bulk_le ps (i + 1)
      simp only at hbt
      generalize ev.rem.length = rl at *
      have HBT := Lib.hid hbt
      have HBL := Lib.hid hble
      clear hsl hp hmem hbt hble
      by_cases h3 : 3000 < n + (1 + (rl : Int))
      · go_wp2_with fail
        go_ret
        have e1 := HN.out
        have e2 := HBT.out
        have e3 := HBL.out
        refine ⟨?_, HB.out.trans ((Below.refl _ _).alloc HB.out.size _)⟩
        rw [decide_eq_true (by omega)]
        rfl
      · go_wp2_with fail
        go_roundg (ps.length - (i + 1))
        case measure => omega
        case rel => exact ⟨i + 1, n + (1 + (rl : Int)), by go_num, by go_num, by omega, Nat.le_refl _, by omega, by omega, by have e1 := HN.out; have e2 := HBT.out; show _ = _; omega, HB.out.trans ((Below.refl _ _).alloc HB.out.size _)⟩
    · have hltz : ¬ (i : Int) < (ps.length : Int) := by omega
      obtain rfl : i = ps.length := by omega
      go_wp2_with fail
      go_ret
      have e1 := HN.out
      rw [List.take_length] at e1
      refine ⟨?_, HB.out⟩
      rw [decide_eq_false (by omega)]
      rfl
theorem owns_made {e : Nat} (W : World) (n : Nat) (hn : W.heap.size = n) : Owns Dot.cells 2 n e (W.alloc (.cells #[] e)) (.slice (some ⟨n, 0, none⟩) 0 0) [] := by
  subst hn
  exact World.ownsRow_made W #[] 0 (Nat.le_refl _) (by decide) rfl
end Go.Proofs.Ytjgbflclhkeibaa
namespace Go.Proofs.Ytjgbflclhkeibaa
open Go.Shelf Go.RowKit Go.Lib Go.Sort
set_option linter.unusedVariables false
def AOp.big (o : AOp) : Bool := decide (3000 < bulk (o.evs.map (·.2))) || decide (200 < o.evs.length) || decide (100 < o.live.length)
def greatOps (l : List AOp) : Bool := l.any AOp.big || decide (60 < l.length)
theorem greatOps_not {l : List AOp} (h : greatOps l = false) : l.length ≤ 60 ∧ ∀ o ∈ l, o.evs.length ≤ 200 ∧ o.live.length ≤ 100 ∧ ∀ p ∈ o.evs, p.2.rem.length ≤ 3000 := by
  unfold greatOps at h
  rw [Bool.or_eq_false_iff, decide_eq_false_iff_not] at h
  refine ⟨by omega, fun o ho => ?_⟩
  have hb : o.big = false := by
    have := List.any_eq_false.1 h.1 o ho
    simpa using this
  unfold AOp.big at hb
  rw [Bool.or_eq_false_iff, Bool.or_eq_false_iff, decide_eq_false_iff_not, decide_eq_false_iff_not, decide_eq_false_iff_not] at hb
  refine ⟨by omega, by omega, fun p hp => ?_⟩
  have := bulk_mem (o.evs.map (·.2)) p.2 (List.mem_map_of_mem hp)
  omega
set_option maxRecDepth 100000 in
set_option maxHeartbeats 4000000 in
theorem greatOps_any (oa : Option Addr) (cap : Nat) (l : List AOp) (w : World) (h : OpsAt w (.slice oa l.length cap) l) (hl : l.length ≤ 1000000000000000) (hf : ∀ o ∈ l, o.sized) :
    Calls Try.prog 10 #[.slice oa l.length cap] w fun e w' => e = .returned (.bool (greatOps l)) ∧ Below w.heap.size w w' := by
  have HE := Lib.hid h
  have HF := Lib.hid hf
  clear h hf
  go_enter Try.func10, Try.ntmps10
  go_wp2_with fail
  go_loopg [7] l.length (fun gk s7 wr => ∃ (i : Nat), s7 = .int .i64 i ∧ i ≤ l.length ∧ l.length - i ≤ gk ∧ Hid (∀ o ∈ l.take i, o.big = false) ∧ Hid (Below w.heap.size w wr))
  case atStart => exact ⟨0, rfl, Nat.zero_le _, Nat.le_refl _, by show ∀ _, _; simp, Below.refl _ _⟩
  case round =>
    obtain ⟨i, rfl, hi, hg, HI, HB⟩ := hrel
    by_cases hlt : i < l.length
    · have hltz : (i : Int) < (l.length : Int) := by omega
      have hsl := HE.out.below HB.out
      obtain ⟨b, off, rfl⟩ := hsl.1.plain AOp.cells_len (by decide) (by intro e; rw [e] at hlt; exact absurd hlt (by simp))
      obtain ⟨o, hp, hmem, hev, hlv, d0, d1, d2, d3, d4, d5⟩ := hsl.op i hlt
      have hsz := HF.out o hmem
      have hgr := fun W (hW : Below wr.heap.size wr W) => great_any o.oe o.ce o.evs W (hev.below hW (Nat.le_refl _)) hsz.1 hsz.2.1
      have hz2 := hsz.1
      have hz3 := hsz.2.2
      have hbig : o.big = (decide (3000 < bulk (o.evs.map (·.2))) || decide (200 < o.evs.length) || decide (100 < o.live.length)) := rfl
      have hmm : greatOps l = true ∨ o.big = false := by
        cases hb : o.big
        · exact .inr rfl
        · refine .inl ?_
          unfold greatOps
          rw [Bool.or_eq_true]
          exact .inl (List.any_eq_true.2 ⟨o, hmem, hb⟩)
      have htk : o.big = false → ∀ x ∈ l.take (i + 1), x.big = false := by
        intro hb x hx
        rw [List.take_succ_eq_append_getElem hlt, List.mem_append] at hx
        rcases hx with hx | hx
        · exact HI.out x hx
        · have : x = o := by
            have e1 := (List.getElem?_eq_some_iff.1 hp).2
            simpa [e1] using hx
          rw [this]; exact hb
      have HGR := Lib.hid hgr
      have HTK := Lib.hid htk
      have HMM := Lib.hid hmm
      generalize hb1 : decide (3000 < bulk (o.evs.map (·.2))) = b1 at *
      generalize o.big = bg at *
      generalize hne : o.evs.length = ne at *
      generalize hnl : o.live.length = nl at *
      have HBIG := Lib.hid hbig
      clear hsl hp hmem hev hlv hsz hgr hbig hmm htk hb1 hne hnl
      have hz : ∀ W : World, Below wr.heap.size wr W → Below w.heap.size w W := fun W hW => HB.out.trans (hW.mono HB.out.size)
      have HZ := Lib.hid hz
      clear hz
      cases b1 with
      | true =>
        go_wp2_with fail
        refine (HGR.out _ (by first | exact ((Below.refl _ _).alloc (Nat.le_refl _) _) | exact ((Below.refl _ _).alloc (Nat.le_refl _) _).setCell (Nat.le_refl _) _)).mono ?_
        rintro e w1 ⟨rfl, hb1⟩
        have HB1 := Lib.hid (((Below.refl wr.heap.size wr).alloc (Nat.le_refl _) (.cells #[.bool o.done, .slice o.oe ne o.ce, .slice o.ol nl o.cl, .int .i64 o.work, .int .i64 o.now, .int .i64 o.tick] 51)).trans (hb1.mono (by simp)))
        clear hb1
        go_wp2_with fail
        go_ret
        have hx : greatOps l = true := by
          rcases HMM.out with h | h
          · exact h
          · rw [HBIG.out] at h; simp at h
        exact ⟨by rw [hx]; rfl, HZ.out _ HB1.out⟩
      | false =>
        obtain ⟨y2, k2⟩ : ∃ x, decide ((ne : Int) > 200) = x := ⟨_, rfl⟩
        obtain ⟨y3, k3⟩ : ∃ x, decide ((nl : Int) > 100) = x := ⟨_, rfl⟩
        have j2 : decide (200 < ne) = y2 := by rw [← k2, Bool.eq_iff_iff]; simp only [decide_eq_true_eq]; omega
        have j3 : decide (100 < nl) = y3 := by rw [← k3, Bool.eq_iff_iff]; simp only [decide_eq_true_eq]; omega
        rw [j2, j3] at HBIG
        clear j2 j3
        have hq : (y2 = true ∨ y3 = true) → greatOps l = true := fun hy => by
          rcases HMM.out with h | h
          · exact h
          · rw [HBIG.out] at h; rcases hy with rfl | rfl <;> simp at h
        have hq2 : y2 = false → y3 = false → bg = false := fun h1 h2 => by rw [HBIG.out, h1, h2]; rfl
        have HQ := Lib.hid hq
        have HQ2 := Lib.hid hq2
        clear hq hq2 HBIG HMM
        go_wp2_with fail
        refine (HGR.out _ (by first | exact ((Below.refl _ _).alloc (Nat.le_refl _) _) | exact ((Below.refl _ _).alloc (Nat.le_refl _) _).setCell (Nat.le_refl _) _)).mono ?_
        rintro e w1 ⟨rfl, hb1⟩
        obtain ⟨hcell, hfr⟩ := bcell hb1
        have hz : wr.heap.size < w1.heap.size := by have := hb1.size; simp at this; omega
        have HB1 := Lib.hid (((Below.refl wr.heap.size wr).alloc (Nat.le_refl _) (.cells #[.bool o.done, .slice o.oe ne o.ce, .slice o.ol nl o.cl, .int .i64 o.work, .int .i64 o.now, .int .i64 o.tick] 51)).trans (hb1.mono (by simp)))
        clear hb1
        cases y2 with
        | true =>
          go_wp2_with fail
          go_ret
          exact ⟨by rw [HQ.out (by simp)]; rfl, HZ.out _ HB1.out⟩
        | false =>
          cases y3 with
          | true =>
            go_wp2_with fail
            go_ret
            exact ⟨by rw [HQ.out (by simp)]; rfl, HZ.out _ HB1.out⟩
          | false =>
            go_wp2_with fail
            go_roundg (l.length - (i + 1))
            case measure => omega
            case rel => exact ⟨i + 1, by go_num, by omega, Nat.le_refl _, HTK.out (HQ2.out (by simp) (by simp)), HZ.out _ HB1.out⟩
    · have hltz : ¬ (i : Int) < (l.length : Int) := by omega
      obtain rfl : i = l.length := by omega
      have hno := HI.out
      rw [List.take_length] at hno
      have hgo : greatOps l = decide (60 < l.length) := by
        unfold greatOps
        rw [List.any_eq_false.2 fun x hx => by rw [hno x hx]; simp]
        simp
      have HG := Lib.hid hgo
      clear hno hgo
      go_wp2_with fail
      go_ret
      refine ⟨?_, HB.out⟩
      rw [HG.out]
      exact retB (by rw [Bool.eq_iff_iff]; simp only [decide_eq_true_eq]; omega)
end Go.Proofs.Ytjgbflclhkeibaa
namespace Go.Proofs.Ytjgbflclhkeibaa
open Go.Sort
set_option linter.unusedVariables false
theorem knowsE_sets {c : ACfg} {evs : List Ev} {work : Int} {s : List Ev} {p : Pol} {load : Int} (h : knowsE c evs work s = some (p, load)) : ∃ e t, s = e :: t ∧ p = e.pol := by
  cases s with
  | nil => cases h
  | cons e t =>
    simp only [knowsE] at h
    split at h
    · simp only [Option.some.injEq, Prod.mk.injEq] at h
      exact ⟨e, t, rfl, h.1.symm⟩
    · cases h
theorem stableI_bd {l : List Int} {x now up down : Int} (h0 : 0 ≤ up) (hd : 0 ≤ down) (h1 : now - down ≤ x) (h2 : x ≤ now + up) : stableI l x now ≤ now + up ∧ now - down ≤ stableI l x now ∧ (stableI l x now < now → ∀ y ∈ l, y ≤ stableI l x now) := by
  unfold stableI
  by_cases h : now ≤ x
  · rw [if_pos h]
    exact ⟨h2, h1, fun hx => by omega⟩
  · rw [if_neg h]
    have := foldl_max_ge l x
    refine ⟨by omega, by omega, fun hx y hy => ?_⟩
    have := this.2 y hy
    omega
/-- how a plan comes out -/
def Comes (c : ACfg) (wished : List Int) (evs : List Ev) (live : List Int) (work now : Int) (n f : Int) (same : Prop) : Prop :=
  (f = 0 ∧ own (rk live work c.salt) = (c.self, 0) ∧ ∃ e s, setsOf evs work = e :: s ∧ e.pol.right ∧ 0 ≤ now ∧ now ≤ 1000 ∧ n ≠ now ∧ n ≤ now + e.pol.up ∧ now - e.pol.down ≤ n ∧ (n < now → ∀ x ∈ wished, x ≤ n)) ∨
  (f = 15 ∧ n = 0 ∧ own (rk live work c.salt) = (c.self, 0)) ∨
  (n = 0 ∧ f ≠ 0 ∧ f ≠ 15 ∧ same ∧ (own (rk live work c.salt) = (c.self, 0) ∨ f = 12 ∨ f = 2))
theorem planI_comes (c : ACfg) (hc : c.right) (t : Trk) (ht : (t.wished.length : Int) ≤ c.keep) (evs : List Ev) (live : List Int) (work now tick : Int) :
    ((planI c t evs live work now tick).2.wished.length : Int) ≤ c.keep ∧ Comes c t.wished evs live work now (planI c t evs live work now tick).1.1 (planI c t evs live work now tick).1.2 ((planI c t evs live work now tick).2 = t) := by
  obtain ⟨h1, h2, h3, h4, h5⟩ := planI_asks c t evs live work now tick
  unfold Comes
  by_cases a1 : 0 ≤ now ∧ now ≤ 1000
  · by_cases a2 : own (rk live work c.salt) = (c.self, 0)
    · cases a3 : knowsE c evs work (setsOf evs work) with
      | none => rw [h3 a1 a2 a3]; exact ⟨ht, .inr (.inr ⟨by simp, by simp, by simp, by simp, .inl a2⟩)⟩
      | some x =>
        obtain ⟨p, load⟩ := x
        by_cases a4 : tooEarly t p tick
        · rw [h4 p load a1 a2 a3 a4]; exact ⟨ht, .inr (.inr ⟨by simp, by simp, by simp, by simp, .inl a2⟩)⟩
        · obtain ⟨hp, hr⟩ := h5 p load a1 a2 a3 a4
          obtain ⟨e, s, hs, rfl⟩ := knowsE_sets a3
          have hg := hp
          unfold Pol.right at hg
          have hll : ((lastN c.keep.toNat (t.wished ++ [stepI e.pol load now])).length : Int) ≤ c.keep := by
            have := lastN_len c.keep.toNat (t.wished ++ [stepI e.pol load now])
            unfold ACfg.right at hc
            omega
          have hbd := within_bd (within (wantedI e.pol (topLoad load) now) e.pol.mn e.pol.mx) (now - e.pol.down) (now + e.pol.up) (by omega)
          have hsb := stableI_bd (l := t.wished) (x := stepI e.pol load now) (now := now) (up := e.pol.up) (down := e.pol.down) (by omega) (by omega) hbd.1 hbd.2
          rw [hr]
          refine ⟨hll, ?_⟩
          by_cases a5 : stableI t.wished (stepI e.pol load now) now = now
          · simp only [if_pos a5]
            exact .inr (.inl ⟨by simp, by simp, a2⟩)
          · simp only [if_neg a5]
            exact .inl ⟨by simp, a2, e, s, hs, hp, a1.1, a1.2, a5, hsb.1, hsb.2.1, hsb.2.2⟩
    · rw [h2 a1 a2]; exact ⟨ht, .inr (.inr ⟨by simp, by simp, by simp, by simp, .inr (.inl (by simp))⟩)⟩
  · rw [h1 a1]; exact ⟨ht, .inr (.inr ⟨by simp, by simp, by simp, by simp, .inr (.inr (by simp))⟩)⟩
theorem planA_comes (c : ACfg) (hc : c.right) (ts : Nat → Trk) (ht : ∀ n, ((ts n).wished.length : Int) ≤ c.keep) (evs : List Ev) (live : List Int) (work now tick : Int) :
    (∀ n, (((planA c ts evs live work now tick).2 n).wished.length : Int) ≤ c.keep) ∧ Comes c (recentA ts work) evs live work now (planA c ts evs live work now tick).1.1 (planA c ts evs live work now tick).1.2 ((planA c ts evs live work now tick).2 = ts) := by
  unfold planA recentA
  by_cases hw : inW work
  · simp only [if_pos hw]
    obtain ⟨h1, h2⟩ := planI_comes c hc (ts work.toNat) (ht _) evs live work now tick
    refine ⟨fun n => ?_, ?_⟩
    · unfold upd
      split
      · exact h1
      · exact ht n
    · unfold Comes at h2 ⊢
      rcases h2 with h | h | ⟨a, b, d, e, f⟩
      · exact .inl h
      · exact .inr (.inl h)
      · exact .inr (.inr ⟨a, b, d, by rw [e, upd_id], f⟩)
  · simp only [if_neg hw]
    exact ⟨ht, .inr (.inr ⟨by simp, by simp, by simp, by simp, .inr (.inr (by simp))⟩)⟩
theorem recentA_len {c : ACfg} {ts : Nat → Trk} (ht : ∀ n, ((ts n).wished.length : Int) ≤ c.keep) (hc : c.right) (work : Int) : ((recentA ts work).length : Int) ≤ c.keep := by
  unfold recentA
  split
  · exact ht _
  · unfold ACfg.right at hc; simp; omega
end Go.Proofs.Ytjgbflclhkeibaa
