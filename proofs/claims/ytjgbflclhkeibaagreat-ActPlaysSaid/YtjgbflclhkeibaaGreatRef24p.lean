/-
  The reference's Plan, walked: it answers as the program's does.
-/
import Derived.Test.YtjgbflclhkeibaaGreatMRef24b
import Derived.Test.YtjgbflclhkeibaaGreatRefWin
import Derived.Test.YtjgbflclhkeibaaGreatRefMean
import Derived.Deep.QuietTactic
import Derived.BigQuiet
import Derived.Deep.DeepCutAuto
import Derived.Deep.RegionLaw
import Derived.Deep.AppendLies
namespace Go.Proofs.YtjgbflclhkeibaaGreat
open Go.Shelf Go.RowKit Go.Lib Go.Sort
set_option linter.unusedVariables false
/-- what is seen of late of all that was done -/
def seenT (c : ACfg) (t : Trk) : Trk := ⟨lastN c.keep.toNat t.wished, t.written, t.at'⟩
/-- of two worlds, in the second of which block b and block q alone have turned, and more lies behind -/
structure But2 (b : Nat) (q : Option Nat) (w w' : World) : Prop where
  os : w'.os = w.os
  tape : w'.tape = w.tape
  output : w'.output = w.output
  size : w.heap.size ≤ w'.heap.size
  block : ∀ k, k < w.heap.size → k ≠ b → some k ≠ q → w'.heap[k]? = w.heap[k]?
theorem But2.of_below {b : Nat} {q : Option Nat} {w w' : World} (h : Below w.heap.size w w') : But2 b q w w' := ⟨h.os, h.tape, h.output, h.size, fun k hk _ _ => h.block k hk⟩
structure RPost (b B : Nat) (c : ACfg) (vs : Nat → Value) (ts : Nat → Trk) (n : Nat) (w w' : World) (t : Trk) : Prop where
  ex : ∃ vs' ts', RObj b B w' c vs' ts' ∧ seenT c (ts' n) = t ∧ (∀ m, m ≠ n → ts' m = ts m) ∧ (ts' n).wished.length ≤ (ts n).wished.length + 1 ∧ ∀ m k, (vs' m).ownBlock = some k → w.heap.size ≤ k ∨ (vs m).ownBlock = some k
  but : But2 b (vs n).ownBlock w w'
theorem RPost.same {b B : Nat} {c : ACfg} {vs : Nat → Value} {ts : Nat → Trk} {n : Nat} {w w' : World} (h : RObj b B w c vs ts) (hb : Below w.heap.size w w') : RPost b B c vs ts n w w' (seenT c (ts n)) :=
  ⟨⟨vs, ts, h.below hb, rfl, fun _ _ => rfl, by omega, fun m k hk => .inr hk⟩, But2.of_below hb⟩
/-- of a row that has got one more -/
theorem RPost.more {b B : Nat} {c : ACfg} {vs : Nat → Value} {ts : Nat → Trk} {n : Nat} {w w6 w7 : World} {v7 : Value} {x : Int} (h : RObj b B w c vs ts) (hn : n < 8) (hc : c.right) (hb : Below w.heap.size w w6) (h7 : Owns icells 1 B 3 w7 v7 ((ts n).wished ++ [x])) (hg : w6.grownBy w7 (vs n).ownBlock)
    (hv : v7.ownBlock = (vs n).ownBlock ∨ ∀ g, v7.ownBlock = some g → w6.heap.size ≤ g) : RPost b B c vs ts n w (w7.setCell ⟨b, 4 + n, none⟩ v7) ⟨lastN c.keep.toNat (lastN c.keep.toNat (ts n).wished ++ [x]), (ts n).written, (ts n).at'⟩ := by
  have hs6 := hb.size
  have hset : ∀ g, g ≠ b → (w7.setCell ⟨b, 4 + n, none⟩ v7).heap[g]? = w7.heap[g]? := fun g hg' => Below.heap_setCell _ _ _ g fun e => hg' (by rw [e])
  have h6 := h.below hb
  have hbn : some b ≠ (vs n).ownBlock := fun e => h.nrow n hn e.symm
  have hbb := h.bB
  have hold : ∀ m, m < 8 → ∀ k, (vs m).ownBlock = some k → k < w.heap.size := fun m hm k hk => ((h.row m hm).1.lt k hk).2
  have hfr : ∀ m k, (upd vs n v7 m).ownBlock = some k → w.heap.size ≤ k ∨ (vs m).ownBlock = some k := by
    intro m k hk
    unfold upd at hk
    split at hk
    · subst_vars
      rcases hv with e | e
      · exact .inr (by rw [← e]; exact hk)
      · exact .inl (Nat.le_trans hs6 (e k hk))
    · exact .inr hk
  refine ⟨⟨upd vs n v7, upd ts n ⟨(ts n).wished ++ [x], (ts n).written, (ts n).at'⟩, ⟨?_, hbb, fun m hm => ?_, fun m m' hm hm' hne k hk hk' => ?_⟩, ?_, fun m hm => upd_other _ _ hm, ?_, hfr⟩, ?_⟩
  · rw [heap_setCell_same _ b _ _ _ _ _ ((hg.block b h6.lt hbn).trans h6.heap), rcells_setW c vs ts hn _ ((ts n).wished ++ [x])]
  · by_cases hmn : m = n
    · subst hmn
      rw [upd_same, upd_same]
      exact ⟨h7.keep fun g hgg => hset g (by have := (h7.lt g hgg).1; omega), fun he => by simp at he⟩
    · rw [upd_other _ _ hmn, upd_other _ _ hmn]
      have hr := (h6.row m hm)
      have hk := hr.1.kept hg (by
        cases he : (vs m).ownBlock with
        | none => exact .inl rfl
        | some k => exact .inr fun e => h.apart m n hm hn hmn k he e.symm)
      exact ⟨hk.keep fun g hgg => hset g (by have := (hk.lt g hgg).1; omega), hr.2⟩
  · rcases hfr m k hk with h1 | h1
    · rcases hfr m' k hk' with h2 | h2
      · by_cases e1 : m = n
        · rw [upd_other _ _ (fun e2 => hne (by rw [e1, e2]))] at hk'
          have := hold m' hm' k hk'
          omega
        · rw [upd_other _ _ e1] at hk
          have := hold m hm k hk
          omega
      · have := hold m' hm' k h2
        omega
    · rcases hfr m' k hk' with h2 | h2
      · have := hold m hm k h1
        omega
      · exact h.apart m m' hm hm' hne k h1 h2
  · rw [upd_same]
    unfold seenT
    simp only [Trk.mk.injEq, and_true]
    rw [lastN_snoc _ _ _ (by unfold ACfg.right at hc; omega)]
  · rw [upd_same]
    simp
  · exact ⟨by rw [← hb.os]; exact hg.os, by rw [← hb.tape]; exact hg.tape, by rw [← hb.output]; exact hg.output, by have := hg.size; simp; omega, fun k hk h1 h2 => (hset k h1).trans ((hg.block k (by omega) h2).trans (hb.block k hk))⟩
theorem pol_two (w : World) (cs : Array Value) (t : TypeId) (o2 : Obj) : ((w.alloc (.cells cs t)).alloc o2).heap[w.heap.size]? = some (.cells cs t) :=
  (((Below.refl (w.alloc (.cells cs t)).heap.size _).alloc (Nat.le_refl _) o2).block w.heap.size (by simp)).trans (heap_alloc_new w (.cells cs t))
theorem knowI_cons (c : ACfg) (t : Trk) (evs : List Ev) (work now tick : Int) (e : Ev) (se : List Ev) (ln : Int × Int) (hln : loadN evs work c.window 8 = ln) :
    (e.pol.rightB = false → knowI c t evs work now tick (e :: se) = ((0, 8), t)) ∧ (ln.2 = 0 → knowI c t evs work now tick (e :: se) = ((0, 8), t)) ∧
    (e.pol.right → ln.2 ≠ 0 → tooEarly t e.pol tick → knowI c t evs work now tick (e :: se) = ((0, 14), t)) ∧
    (e.pol.right → ln.2 ≠ 0 → ¬ tooEarly t e.pol tick → knowI c t evs work now tick (e :: se) = ((if stableI t.wished (stepI e.pol ln.1 now) now = now then (0, 15) else (stableI t.wished (stepI e.pol ln.1 now) now, 0)), ⟨lastN c.keep.toNat (t.wished ++ [stepI e.pol ln.1 now]), t.written, t.at'⟩)) := by
  simp only [knowI, hln]
  refine ⟨fun h => ?_, fun h => ?_, fun h h1 h2 => ?_, fun h h1 h2 => ?_⟩
  · rw [if_neg]
    intro hh
    have := Pol.rightB_iff.2 hh.1
    rw [h] at this
    cases this
  · rw [if_neg (fun hh => hh.2 h)]
  · rw [if_pos ⟨h, h1⟩, if_pos h2]
  · rw [if_pos ⟨h, h1⟩, if_neg h2]
    unfold decideI wishI
    rw [hln]
    split <;> rfl
section
variable {b B : Nat} {c : ACfg} {vs : Nat → Value} {ts : Nat → Trk} {w : World}
set_option maxRecDepth 100000 in
set_option maxHeartbeats 8000000 in
theorem refPlan_in (oa : Option Addr) (cap : Nat) (ps : List PEv) (ol : Option Addr) (capl : Nat) (nodes : List Int) (now tick : Int) (n : Nat) (hn : n < 8) (hc : c.right) (hsalt : 0 ≤ c.salt ∧ c.salt < 18446744073709551616) (hlen : (ts n).wished.length ≤ 1000) (h : RObj b B w c vs ts) (hBw : B ≤ w.heap.size)
    (hE : EvsAt w (.slice oa ps.length cap) ps) (hl : ps.length ≤ 1000000) (hr : ∀ p ∈ ps, p.2.rem.length ≤ 1000000) (hN : SlAt icells w (.slice ol nodes.length capl) nodes) (hnl : nodes.length ≤ 1000000) (n0 : 0 ≤ now) (n1 : now ≤ 1000) :
    Calls Tryz.prog 12 #[.pointer (some ⟨b, 0, none⟩), .slice oa ps.length cap, .slice ol nodes.length capl, .int .i64 (n : Int), .int .i64 now, .int .i64 tick] w fun e w' =>
      e = .returned (.tuple #[.int .i64 (planI c (seenT c (ts n)) (ps.map (·.2)) nodes n now tick).1.1, .int .i64 (planI c (seenT c (ts n)) (ps.map (·.2)) nodes n now tick).1.2]) ∧ RPost b B c vs ts n w w' (planI c (seenT c (ts n)) (ps.map (·.2)) nodes n now tick).2 := by
  have hd1 : decide ((n : Int) < 0) = false := decide_eq_false (by omega)
  have hd2 : decide ((n : Int) > 7) = false := decide_eq_false (by omega)
  have hd3 : decide (now < 0) = false := decide_eq_false (by omega)
  have hd4 : decide (now > 1000) = false := decide_eq_false (by omega)
  have hz : (n : Int) < 8 := by omega
  obtain ⟨s, hs⟩ : ∃ s, s = setsOf (ps.map (·.2)) n := ⟨_, rfl⟩
  have hpl : planI c (seenT c (ts n)) (ps.map (·.2)) nodes n now tick = if own (rk nodes n c.salt) = (c.self, 0) then knowI c (seenT c (ts n)) (ps.map (·.2)) n now tick s else ((0, 12), seenT c (ts n)) := by
    unfold planI
    rw [if_pos ⟨n0, n1⟩, hs]
  have herr := own_err (rk nodes n c.salt)
  have how := refOwner_any ol capl nodes n c.salt hsalt.1 hsalt.2 w hN hnl
  have hcc := hc
  unfold ACfg.right at hcc
  have hld : ∀ W, Below w.heap.size w W → Calls Tryz.prog 32 #[.slice oa ps.length cap, .int .i64 n, .int .i64 c.window] W fun e w' => e = .returned (.tuple #[.int .i64 (loadN (ps.map (·.2)) n c.window 8).1, .int .i64 (loadN (ps.map (·.2)) n c.window 8).2, .int .i64 0]) ∧ Below W.heap.size W w' :=
    fun W hW => (refLoad_any oa cap ps n c.window W (hE.below hW (Nat.le_refl _)) hl hr).mono fun e w' ⟨he, hb⟩ => ⟨by
      rw [he]
      have : loadOf (ps.map (·.2)) n c.window = (loadN (ps.map (·.2)) n c.window 8, 0) := by unfold loadOf; rw [if_pos ((within_eq c.window 1 16 (by decide)).2 ⟨by omega, by omega⟩)]
      rw [this], hb⟩
  have hkc := fun (e : Ev) (se : List Ev) => knowI_cons c (seenT c (ts n)) (ps.map (·.2)) n now tick e se _ rfl
  generalize loadN (ps.map (·.2)) n c.window 8 = ln at *
  obtain ⟨lo, nn⟩ := ln
  simp only at hkc hld
  have HKC := Lib.hid hkc
  clear hkc
  have hwn : ∀ W, Below w.heap.size w W → Calls Tryz.prog 30 #[.slice oa ps.length cap, .int .i64 n] W fun e w' => e = .returned (winV s) ∧ Below W.heap.size W w' :=
    fun W hW => (refWinner_any oa cap ps n W (hE.below hW (Nat.le_refl _)) hl hr).mono fun e w' ⟨l, hst, he, hb⟩ => ⟨by
      obtain rfl : l = s := by rw [hs]; exact stSort_eq swo_evLater hst
      exact he, hb⟩
  have hrp := fun (p : Pol) W => refRightPolicy_any p W
  have hstp := fun (p : Pol) (hp : p.right) (load : Int) W => refStep_any p hp load now n0 n1 W
  have hrec := fun W (hW : Below w.heap.size w W) => refRecent_in n hn hcc.2.2.2.2.1 hcc.2.2.2.2.2 hlen (h.below hW)
  have hsb := fun (x : Int) (o : Option Addr) (k : Nat) W (hW : SlAt icells W (.slice o (lastN c.keep.toNat (ts n).wished).length k) (lastN c.keep.toNat (ts n).wished)) => refStable_any o k (lastN c.keep.toNat (ts n).wished) x now W hW (by have := lastN_len c.keep.toNat (ts n).wished; omega)
  have hsub := fun (x : Int) W => (refSub_any tick x W).mono fun e w' ⟨he, hw⟩ => (⟨he, hw.symm⟩ : e = _ ∧ w' = W)
  have hk : ∀ W, Below w.heap.size w W → W.cell? ⟨b, 0, none⟩ = some (.int .i64 c.self) ∧ W.cell? ⟨b, 1, none⟩ = some (.int .i64 c.window) ∧ W.cell? ⟨b, 4 + n, none⟩ = some (vs n) ∧ W.cell? ⟨b, 12 + n, none⟩ = some (.bool (ts n).written) ∧ W.cell? ⟨b, 20 + n, none⟩ = some (.int .i64 (ts n).at') ∧ W.frozen? ⟨b, 4 + n, none⟩ = false :=
    fun W hW => ⟨(h.below hW).cell 0, (h.below hW).cell 1, ((h.below hW).cell _).trans (rcells_wished c vs ts hn), ((h.below hW).cell _).trans (rcells_written c vs ts hn), ((h.below hW).cell _).trans (rcells_at c vs ts hn), (h.below hW).frozen _⟩
  have c3 : w.cell? ⟨b, 3, none⟩ = some (.int .u64 c.salt) := h.cell 3
  have hblt := h.lt
  generalize planI c (seenT c (ts n)) (ps.map (·.2)) nodes n now tick = r at *
  obtain ⟨⟨r1, r2⟩, rt⟩ := r
  obtain ⟨xg, hxg⟩ : ∃ xg, own (rk nodes n c.salt) = xg := ⟨_, rfl⟩
  have how2 : Calls Tryz.prog 29 #[.slice ol nodes.length capl, .int .i64 n, .int .u64 c.salt] w fun e w' => e = .returned (.tuple #[.int .i64 xg.1, .int .i64 xg.2]) ∧ Below w.heap.size w w' :=
    how.mono fun e w' ⟨l, hlo, he, hb⟩ => ⟨by
      obtain rfl : l = rk nodes n c.salt := hlo.eq (rk_ranks _ _ _) rfl
      rw [he, hxg], hb⟩
  rw [hxg] at hpl herr
  obtain ⟨x, g⟩ := xg
  have HPL := Lib.hid hpl
  have HOW := Lib.hid how2
  have HLD := Lib.hid hld
  have HWN := Lib.hid hwn
  have HRP := Lib.hid hrp
  have HSTP := Lib.hid hstp
  have HREC := Lib.hid hrec
  have HSB := Lib.hid hsb
  have HSUB := Lib.hid hsub
  have HK := Lib.hid hk
  have HO := Lib.hid h
  have HS := Lib.hid hs
  have HC := Lib.hid hc
  clear hpl how how2 hld hwn hrp hstp hrec hsb hsub hk h hE hr hN hs hxg hc hsalt
  by_cases hox : (x, g) = (c.self, (0 : Int))
  · have hpl := HPL.out
    rw [if_pos hox] at hpl
    have HPL2 := Lib.hid hpl
    simp only [Prod.mk.injEq] at hox
    obtain ⟨rfl, rfl⟩ := hox
    clear hpl HPL herr
    go_enter Tryz.func12, Tryz.ntmps12
    go_wp2_with fail
    refine HOW.out.mono ?_
    rintro e w1 ⟨rfl, hb1⟩
    have HB1 := Lib.hid hb1
    obtain ⟨k0, k1, k4, k12, k20, kf⟩ := HK.out _ hb1
    clear hb1 k1 k4 k12 k20 kf c3
    go_wp2_with fail
    refine (HWN.out _ HB1.out).mono ?_
    rintro e w2 ⟨rfl, hb2⟩
    have HB2 := Lib.hid (HB1.out.trans (hb2.mono HB1.out.size))
    clear hb2 k0 HWN
    cases s with
    | nil =>
      simp only [winV]
      obtain ⟨⟨rfl, rfl⟩, rfl⟩ : (r1 = 0 ∧ r2 = 8) ∧ rt = seenT c (ts n) := by have := HPL2.out; simpa [knowI] using this
      go_wp2_with fail
      go_ret2
      exact ⟨rfl, RPost.same HO.out ((HB2.out.alloc HB2.out.size _).alloc (by have := HB2.out.size; simp; omega) _)⟩
    | cons ev se =>
      obtain ⟨dt, tm, kd, wk, vl, p, rm⟩ := ev
      simp only [winV]
      have hkw := HKC.out ⟨dt, tm, kd, wk, vl, p, rm⟩ se
      rw [← HPL2.out] at hkw
      simp only at hkw
      have HKW := Lib.hid hkw
      clear hkw HPL2 HS HKC
      go_wp2_with fail
      have hba : Below w.heap.size w ((w2.alloc (.cells #[.int .i64 p.mn, .int .i64 p.mx, .int .i64 p.goal, .int .i64 p.slack, .int .i64 p.up, .int .i64 p.down, .int .i64 p.cool] 53)).alloc (.cells #[.int .i64 dt.node, .int .i64 dt.seq] 71)) := (HB2.out.alloc HB2.out.size _).alloc (by have := HB2.out.size; simp; omega) _
      have hp0 := pol_two w2 #[.int .i64 p.mn, .int .i64 p.mx, .int .i64 p.goal, .int .i64 p.slack, .int .i64 p.up, .int .i64 p.down, .int .i64 p.cool] 53 (.cells #[.int .i64 dt.node, .int .i64 dt.seq] 71)
      refine (HRP.out p _).mono ?_
      rintro e w3 ⟨rfl, hb3⟩
      have HB3 := Lib.hid (hba.trans (hb3.mono hba.size))
      have HP3 := Lib.hid (show PolAt w3 w2.heap.size p from (hb3.block _ (by simp; omega)).trans hp0)
      obtain ⟨g0, g1, g2, g3, g4, g5, g6⟩ := HP3.out.cells
      obtain ⟨k0, k1, k4, k12, k20, kf⟩ := HK.out _ HB3.out
      have hw2 := HB2.out.size
      clear hb3 hba hp0 HB2 HRP k0 k4 k12 k20 kf g0 g1 g2 g3 g4 g5 g6
      generalize w2.heap.size = pb at *
      obtain ⟨rgt, hrgt⟩ : ∃ y, p.rightB = y := ⟨_, rfl⟩
      rw [hrgt]
      cases rgt with
      | false =>
        obtain ⟨⟨rfl, rfl⟩, rfl⟩ : (r1 = 0 ∧ r2 = 8) ∧ rt = seenT c (ts n) := by have := HKW.out.1 hrgt; simpa using this
        go_wp2_with fail
        go_ret2
        exact ⟨rfl, RPost.same HO.out HB3.out⟩
      | true =>
        have hpr := Pol.rightB_iff.1 hrgt
        have HPR := Lib.hid hpr
        have hkt := HKW.out.2
        have HKT := Lib.hid hkt
        clear hpr hrgt hkt HKW
        go_wp2_with fail
        refine (HLD.out _ HB3.out).mono ?_
        rintro e w4 ⟨rfl, hb4⟩
        have HB4 := Lib.hid (HB3.out.trans (hb4.mono HB3.out.size))
        have HP4 := Lib.hid (HP3.out.below hb4)
        obtain ⟨g0, g1, g2, g3, g4, g5, g6⟩ := HP4.out.cells
        obtain ⟨k0, k1, k4, k12, k20, kf⟩ := HK.out _ HB4.out
        clear hb4 HB3 HP3 HLD k0 k1 k4 kf
        by_cases hnn : nn = 0
        · obtain ⟨⟨rfl, rfl⟩, rfl⟩ : (r1 = 0 ∧ r2 = 8) ∧ rt = seenT c (ts n) := by have := HKT.out.1 hnn; simpa using this
          subst hnn
          go_wp2_with fail
          go_ret2
          exact ⟨rfl, RPost.same HO.out HB4.out⟩
        · have hnb : (nn == 0) = false := by simpa using hnn
          obtain ⟨su, hsu⟩ : ∃ y, satSub tick p.cool = y := ⟨_, rfl⟩
          have hsub := fun W => HSUB.out p.cool W
          rw [hsu] at hsub
          have HSUB2 := Lib.hid hsub
          have hte : tooEarly (seenT c (ts n)) p tick ↔ ((ts n).written = true ∧ su < (ts n).at') := by rw [← hsu]; rfl
          have hk14 := HKT.out.2.1 HPR.out hnn
          have hkd := HKT.out.2.2 HPR.out hnn
          rw [hte] at hk14 hkd
          have HK14 := Lib.hid hk14
          have HKD := Lib.hid hkd
          clear hsub hsu hte hk14 hkd HKT HSUB hnn
          obtain ⟨wr, hwr⟩ : ∃ y, (ts n).written = y := ⟨_, rfl⟩
          obtain ⟨at0, hat⟩ : ∃ y, (ts n).at' = y := ⟨_, rfl⟩
          obtain ⟨ea, hea⟩ : ∃ y, (wr && decide (at0 > su)) = y := ⟨_, rfl⟩
          have hcond : ((ts n).written = true ∧ su < (ts n).at') ↔ ea = true := by
            rw [hwr, hat, ← hea, Bool.and_eq_true, decide_eq_true_eq]
          rw [hcond] at HK14 HKD
          rw [hwr] at k12
          rw [hat] at k20
          clear hwr hat hcond
          go_wp2_with fail
          go_cut [107] (fun s107 wx => s107 = .bool ea ∧ Hid (Below w4.heap.size w4 wx))
          case first =>
            cases wr with
            | false =>
              go_quiet (fail)
              go_wp2_with fail
              go_meet
              exact ⟨by simp [← hea], below_drewN _ _⟩
            | true =>
              go_quiet (first | (go_at_call 33; refine Calls.quiet_of_same (HSUB2.out _)))
              go_wp2_with fail
              go_meet
              exact ⟨by simp [← hea], below_drewN _ _⟩
          case rest =>
            obtain ⟨rfl, HBC⟩ := hcut
            have HB5 := Lib.hid (HB4.out.trans (HBC.out.mono HB4.out.size))
            cases ea with
            | true =>
              obtain ⟨⟨rfl, rfl⟩, rfl⟩ : (r1 = 0 ∧ r2 = 14) ∧ rt = seenT c (ts n) := by have := HK14.out rfl; simpa using this
              go_wp2_with fail
              go_ret2
              exact ⟨rfl, RPost.same HO.out HB5.out⟩
            | false =>
              have hkd := HKD.out (by simp)
              obtain ⟨wish, hwish⟩ : ∃ y, stepI p lo now = y := ⟨_, rfl⟩
              obtain ⟨plan, hplan⟩ : ∃ y, stableI (lastN c.keep.toNat (ts n).wished) wish now = y := ⟨_, rfl⟩
              have hst := fun W => HSTP.out p HPR.out lo W
              have hsbb := fun o k W hW => HSB.out wish o k W hW
              have hsx : (seenT c (ts n)).wished = lastN c.keep.toNat (ts n).wished := rfl
              rw [hwish] at hst hkd
              rw [hplan] at hsbb
              rw [hsx, hplan] at hkd
              simp only [Prod.mk.injEq] at hkd
              obtain ⟨hkp, hkt⟩ := hkd
              have HST := Lib.hid hst
              have HSBB := Lib.hid hsbb
              have HKP := Lib.hid hkp
              have HKTT := Lib.hid hkt
              obtain ⟨g0, g1, g2, g3, g4, g5, g6⟩ := (HP4.out.below HBC.out).cells
              clear hst hsbb hkp hkt hsx hwish hplan k12 k20 hea HK14 HKD HSTP HSB HP4 HSUB2
              go_wp2_with fail
              refine (HST.out _).mono ?_
              rintro e w5 ⟨rfl, hb5⟩
              have HB6 := Lib.hid (HB5.out.trans (hb5.mono HB5.out.size))
              clear hb5 g0 g1 g2 g3 g4 g5 g6 HST HBC HB5 HB4
              go_wp2_with fail
              refine (HREC.out _ HB6.out).mono ?_
              rintro e w6 ⟨v6, rfl, ho6, hb6⟩
              obtain ⟨o6, c6, rfl⟩ := slAt_slice ho6.at
              have HB7 := Lib.hid (HB6.out.trans (hb6.mono HB6.out.size))
              have HS6 := Lib.hid ho6.at
              clear ho6 hb6 HB6 HREC
              go_wp2_with fail
              refine (HSBB.out _ _ _ HS6.out).mono ?_
              rintro e w7 ⟨rfl, hw7⟩
              subst hw7
              obtain ⟨k0, k1, k4, k12, k20, kf⟩ := HK.out _ HB7.out
              clear k0 k1 k12 k20 HSBB HS6
              have hsz7 := HB7.out.size
              have hown0 := (HO.out.row n hn).1.below HB7.out (Nat.le_refl _)
              have HOWND := Lib.hid (hown0.below (below_drew (Below.refl w7.heap.size w7)) (Nat.le_refl _))
              have hnb0 : some b ≠ (vs n).ownBlock := fun e => HO.out.nrow n hn e.symm
              have hb7lt : b < w7.heap.size := by omega
              clear hown0
              go_wp2_with fail
              go_region_law (first
                | (refine step_appD icells 1 icells_len (by decide) icells_one _ rfl _ _ 37 rfl B 3 _ 8 Tryz.underlying37 infoInt rfl (vs n) (ts n).wished rfl (HOWND.out.below ((Below.refl _ _).alloc (Nat.le_refl _) _) (Nat.le_refl _)) _ [wish] rfl (slAt_new (enc := icells) w7.drew (icells wish).toArray 3 1 1 (0, 0) [wish] rfl rfl (by simp)) (by simp only [List.length_cons, List.length_nil]; omega) (by simp only [List.length_cons, List.length_nil]; omega) (by simp; omega) ?_
                   intro v8 w8 h8 hg8 hv8 hd8
                   have hbx : Below w7.heap.size w7 (w7.drew.alloc (.cells (icells wish).toArray 3)) := (below_drew (Below.refl _ _)).alloc (Nat.le_refl _) _
                   have k4x : (w7.drew.alloc (.cells (icells wish).toArray 3)).cell? ⟨b, 4 + n, none⟩ = some (vs n) := (hbx.cell (p := ⟨b, 4 + n, none⟩) hb7lt).trans k4
                   have k8 : w8.cell? ⟨b, 4 + n, none⟩ = some (vs n) := hg8.cell k4x hnb0
                   have kf8 : w8.frozen? ⟨b, 4 + n, none⟩ = false := (hg8.frozen_far ⟨b, 4 + n, none⟩ (Nat.lt_of_lt_of_le hb7lt hbx.size) hnb0).trans ((hbx.frozen (p := ⟨b, 4 + n, none⟩) hb7lt).trans kf)
                   obtain ⟨o8, c8, rfl⟩ := slAt_slice h8.at
                   have H8 := Lib.hid h8
                   have HG8 := Lib.hid hg8
                   have HV8 := Lib.hid hv8
                   have HBX := Lib.hid hbx
                   clear h8 hg8 hv8 hd8 hbx k4x))
              all_goals
                have hpost := RPost.more (x := wish) HO.out hn HC.out (HB7.out.trans (HBX.out.mono hsz7)) H8.out HG8.out HV8.out
                have hle : ((ts n).wished ++ [wish]).length = (ts n).wished.length + 1 := by simp
                have hrt := HKTT.out
                rw [hle] at hpost
                subst hrt
                have HPOST := Lib.hid hpost
                clear hpost hle H8 HG8 HV8 HBX HKTT k8 kf8 k4 kf
                generalize w8.setCell ⟨b, 4 + n, none⟩ (.slice o8 ((ts n).wished.length + 1) c8) = w9 at *
                have hkp := HKP.out
                by_cases hpn : plan = now
                · rw [if_pos hpn, Prod.mk.injEq] at hkp
                  obtain ⟨rfl, rfl⟩ := hkp
                  have hpb : (plan == now) = true := by simp [hpn]
                  clear HKP
                  go_wp2_with fail
                  go_ret2
                  exact ⟨rfl, HPOST.out⟩
                · rw [if_neg hpn, Prod.mk.injEq] at hkp
                  obtain ⟨rfl, rfl⟩ := hkp
                  have hpb : (r1 == now) = false := by simp [hpn]
                  clear HKP
                  go_wp2_with fail
                  go_ret2
                  exact ⟨rfl, HPOST.out⟩
  · have hpl := HPL.out
    rw [if_neg hox] at hpl
    simp only [Prod.mk.injEq] at hpl
    obtain ⟨⟨rfl, rfl⟩, rfl⟩ := hpl
    have hxs : g = 8 ∨ (g = 0 ∧ (x != c.self) = true) := by
      rcases herr with h | h
      · refine .inr ⟨h, ?_⟩
        simp only at h
        rw [h] at hox
        simpa using hox
      · exact .inl h
    clear herr hox HPL
    rcases hxs with rfl | ⟨rfl, hxb⟩
    all_goals
      go_enter Tryz.func12, Tryz.ntmps12
      go_wp2_with fail
      refine HOW.out.mono ?_
      rintro e w1 ⟨rfl, hb1⟩
      have HB1 := Lib.hid hb1
      obtain ⟨k0, k1, k4, k12, k20, kf⟩ := HK.out _ hb1
      clear hb1 k1 k4 k12 k20 kf c3
      go_wp2_with fail
      go_ret2
      exact ⟨rfl, RPost.same HO.out HB1.out⟩
set_option maxRecDepth 100000 in
theorem refPlan_out (b : Nat) (v1 v2 : Value) (work now tick : Int) (hw : ¬ ((0 ≤ work ∧ work ≤ 7) ∧ 0 ≤ now ∧ now ≤ 1000)) (w : World) :
    Calls Tryz.prog 12 #[.pointer (some ⟨b, 0, none⟩), v1, v2, .int .i64 work, .int .i64 now, .int .i64 tick] w fun e w' => e = .returned (.tuple #[.int .i64 0, .int .i64 2]) ∧ w = w' := by
  obtain ⟨y1, h1⟩ : ∃ y, decide (work < 0) = y := ⟨_, rfl⟩
  obtain ⟨y2, h2⟩ : ∃ y, decide (work > 7) = y := ⟨_, rfl⟩
  obtain ⟨y3, h3⟩ : ∃ y, decide (now < 0) = y := ⟨_, rfl⟩
  obtain ⟨y4, h4⟩ : ∃ y, decide (now > 1000) = y := ⟨_, rfl⟩
  have hx : y1 = true ∨ (y1 = false ∧ y2 = true) ∨ (y1 = false ∧ y2 = false ∧ y3 = true) ∨ (y1 = false ∧ y2 = false ∧ y3 = false ∧ y4 = true) := by
    cases y1 <;> cases y2 <;> cases y3 <;> cases y4 <;> simp at h1 h2 h3 h4 ⊢ <;> exact hw ⟨⟨by omega, by omega⟩, by omega, by omega⟩
  clear hw
  rcases hx with rfl | ⟨rfl, rfl⟩ | ⟨rfl, rfl, rfl⟩ | ⟨rfl, rfl, rfl, rfl⟩
  all_goals
    go_enter Tryz.func12, Tryz.ntmps12
    go_wp2_with fail
    go_ret2
    exact ⟨rfl, rfl⟩
end
end Go.Proofs.YtjgbflclhkeibaaGreat
