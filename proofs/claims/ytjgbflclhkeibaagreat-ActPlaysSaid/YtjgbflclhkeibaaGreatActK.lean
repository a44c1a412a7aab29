/-
  knows: whether there is a policy, and a load; both are remembered in the question.
-/
import Derived.Test.YtjgbflclhkeibaaGreatActCool
import Derived.Test.YtjgbflclhkeibaaGreatMStepEv
namespace Go.Proofs.YtjgbflclhkeibaaGreat
open Go.Shelf Go.RowKit Go.Lib Go.Sort
set_option linter.unusedVariables false
def knowsE (c : ACfg) (evs : List Ev) (work : Int) : List Ev → Option (Pol × Int)
  | [] => none
  | e :: _ => if e.pol.right ∧ (loadN evs work c.window 8).2 ≠ 0 then some (e.pol, (loadN evs work c.window 8).1) else none
def KnowsPost (b : Nat) (c : ACfg) (t l live : Value) (work now tick : Int) (evs : List Ev) (w : World) (e : Ending) (w' : World) : Prop :=
  e = askE (knowsE c evs work (setsOf evs work)).isSome 8 ∧ w.grownBy w' (some b) ∧ ∀ p' load', knowsE c evs work (setsOf evs work) = some (p', load') → QAt w' b c t l live work now tick p' load'
/-- what stands first among the Sets, laid out -/
def fpol : List Ev → Pol
  | [] => ⟨0, 0, 0, 0, 0, 0, 0⟩
  | e :: _ => e.pol
def fdot : List Ev → Dot
  | [] => ⟨0, 0⟩
  | e :: _ => e.dot
theorem winV_eq (l : List Ev) : winV l = .tuple #[.agg #[.int .i64 (fpol l).mn, .int .i64 (fpol l).mx, .int .i64 (fpol l).goal, .int .i64 (fpol l).slack, .int .i64 (fpol l).up, .int .i64 (fpol l).down, .int .i64 (fpol l).cool], .agg #[.int .i64 (fdot l).node, .int .i64 (fdot l).seq], .bool (!l.isEmpty)] := by
  cases l <;> rfl
def pol7 (p : Pol) : Array Value := #[.int .i64 p.mn, .int .i64 p.mx, .int .i64 p.goal, .int .i64 p.slack, .int .i64 p.up, .int .i64 p.down, .int .i64 p.cool]
theorem below_alloc' {w w' : World} (h : Below w.heap.size w w') (o : Obj) : Below w.heap.size w (w'.alloc o) := h.alloc h.size o
theorem below_set' {w w' : World} (h : Below w.heap.size w w') {q : Addr} (hq : w.heap.size ≤ q.block) (v : Value) : Below w.heap.size w (w'.setCell q v) := h.setCell hq v
theorem grown_of_below {w w' : World} (h : Below w.heap.size w w') (row : Option Nat) : w.grownBy w' row := ⟨h.os, h.tape, h.output, h.size, fun k hk _ => h.block k hk⟩
theorem winReg_start {w : World} {oa : Option Addr} {cap : Nat} {ps : List PEv} {e ed ep : Nat} {zp pc zd dc : Array Value} (h : EvsAt w (.slice oa ps.length cap) ps) (v18 v19 : Value) :
    WinReg w e ed ep 0 [] (ps.map (·.2)) zp pc zd dc true true false false false false false undef (.slice oa ps.length cap) v18 v19 w.drew where
  below := below_drew (Below.refl _ _)
  ord := fun _ => rfl
  ord2 := fun _ => rfl
  ords := fun h => nomatch h
  ordt := fun h => nomatch h
  one := fun _ h => nomatch h
  two := fun _ _ => ⟨oa, cap, ps, rfl, h.below (below_drew (Below.refl _ _)) (Nat.le_refl _), rfl⟩
  pa := fun h => nomatch h
  pd := fun h => nomatch h
section
variable (b : Nat) (c : ACfg) (t l live : Value) (work now tick : Int) (p : Pol) (load : Int) (w : World)
theorem knowsE_some {evs : List Ev} {s : List Ev} : (knowsE c evs work s).isSome = (!s.isEmpty && ((fpol s).rightB && decide ((loadN evs work c.window 8).2 > 0))) := by
  cases s with
  | nil => rfl
  | cons e s =>
    have hbd := (loadN_bd evs work c.window 8).1
    simp only [knowsE, fpol, List.isEmpty_cons, Bool.not_false, Bool.true_and]
    unfold Pol.rightB
    by_cases h1 : e.pol.right
    · by_cases h2 : (loadN evs work c.window 8).2 = 0
      · rw [if_neg (by simp [h2])]
        simp [h2]
      · rw [if_pos ⟨h1, h2⟩]
        have : (loadN evs work c.window 8).2 > 0 := by omega
        simp [h1, this]
    · rw [if_neg (by simp [h1])]
      simp [h1]
set_option maxRecDepth 100000 in
set_option maxHeartbeats 4000000 in
theorem knows_any (oa : Option Addr) (cap : Nat) (ps : List PEv) (hw1 : 1 ≤ c.window) (hw2 : c.window ≤ 16) (hlv : l = .slice oa ps.length cap) (h : QAt w b c t l live work now tick p load) (hE : EvsAt w l ps) (hl : ps.length ≤ 1000000) (hr : ∀ p ∈ ps, p.2.rem.length ≤ 1000000) :
    Calls Tryz.prog 26 #[.pointer (some ⟨b, 0, none⟩)] w (KnowsPost b c t l live work now tick (ps.map (·.2)) w) := by
  subst hlv
  have hq : ∀ W, Below w.heap.size w W → W.cell? ⟨b, 5, none⟩ = some (.slice oa ps.length cap) ∧ W.cell? ⟨b, 7, none⟩ = some (.int .i64 work) ∧ W.cell? ⟨b, 1, none⟩ = some (.int .i64 c.window) ∧ Below w.heap.size w W :=
    fun W hW => ⟨(h.below hW).cell 5, (h.below hW).cell 7, (h.below hW).cell 1, hW⟩
  obtain ⟨c5, c7, c1, _⟩ := hq w (Below.refl _ _)
  obtain ⟨s, hs⟩ : ∃ s, s = setsOf (ps.map (·.2)) work := ⟨_, rfl⟩
  have hwn : ∀ W, Below w.heap.size w W → Calls Tryz.prog 41 #[.slice oa ps.length cap, .int .i64 work] W fun e w' => e = .returned (.tuple #[.agg #[.int .i64 (fpol s).mn, .int .i64 (fpol s).mx, .int .i64 (fpol s).goal, .int .i64 (fpol s).slack, .int .i64 (fpol s).up, .int .i64 (fpol s).down, .int .i64 (fpol s).cool], .agg #[.int .i64 (fdot s).node, .int .i64 (fdot s).seq], .bool (!s.isEmpty)]) ∧ Below w.heap.size w w' ∧ Below W.heap.size W w' :=
    fun W hW => (winner_any oa cap ps work W (hE.below hW (Nat.le_refl _)) hl hr).mono fun e w' ⟨l, hst, he, hb⟩ => by
      obtain rfl : l = s := by rw [hs]; exact stSort_eq swo_evLater hst
      exact ⟨by rw [he, winV_eq], hW.trans (hb.mono hW.size), hb⟩
  have hld : ∀ W, Below w.heap.size w W → Calls Tryz.prog 43 #[.slice oa ps.length cap, .int .i64 work, .int .i64 c.window] W fun e w' => e = .returned (.tuple #[.int .i64 (loadN (ps.map (·.2)) work c.window 8).1, .int .i64 (loadN (ps.map (·.2)) work c.window 8).2, .int .i64 0]) ∧ Below W.heap.size W w' :=
    fun W hW => (load_any oa cap ps work c.window W (hE.below hW (Nat.le_refl _)) hl hr).mono fun e w' ⟨he, hb⟩ => ⟨by
      rw [he]
      have : loadOf (ps.map (·.2)) work c.window = (loadN (ps.map (·.2)) work c.window 8, 0) := by unfold loadOf; rw [if_pos ((within_eq c.window 1 16 (by decide)).2 ⟨hw1, hw2⟩)]
      rw [this], hb⟩
  have hkn := knowsE_some c work (evs := ps.map (·.2)) (s := s)
  have hks : ∀ p' load', knowsE c (ps.map (·.2)) work s = some (p', load') → p' = fpol s ∧ load' = (loadN (ps.map (·.2)) work c.window 8).1 := by
    intro p' load' he
    cases s with
    | nil => exact absurd he (by simp [knowsE])
    | cons e s =>
      simp only [knowsE] at he
      split at he
      · simp only [Option.some.injEq, Prod.mk.injEq] at he
        exact ⟨he.1.symm, he.2.symm⟩
      · exact absurd he (by simp)
  unfold KnowsPost
  rw [← hs, hkn]
  generalize knowsE c (ps.map (·.2)) work s = ke at *
  generalize loadN (ps.map (·.2)) work c.window 8 = ln at *
  obtain ⟨lo, nn⟩ := ln
  have hrp := fun W => rightPolicy_any (fpol s) W
  generalize fpol s = p0 at *
  generalize fdot s = d0 at *
  generalize s.isEmpty = em at *
  generalize p0.rightB = rb at *
  simp only at hld hkn hks ⊢
  obtain ⟨nb, hnb⟩ : ∃ nb, decide (nn > 0) = nb := ⟨_, rfl⟩
  rw [hnb] at hkn ⊢
  have hm := fun ok W => must_any ok 8 W
  have HM := Lib.hid hm
  have HWN := Lib.hid hwn
  have HLD2 := Lib.hid hld
  have HRP := Lib.hid hrp
  have HQ := Lib.hid hq
  have HK := Lib.hid hks
  have HA := Lib.hid h
  have hblt := h.lt
  have HE := Lib.hid hE
  have HKN := Lib.hid hkn
  have hkeep : ∀ W, Below w.heap.size w W → W.cell? ⟨b, 5, none⟩ = some (.slice oa ps.length cap) ∧ W.cell? ⟨b, 7, none⟩ = some (.int .i64 work) := fun W hW => ⟨(hq W hW).1, (hq W hW).2.1⟩
  have HKP := Lib.hid hkeep
  clear hm hwn hld hrp hq hks h hkn hs hE hr hkeep
  go_enter Tryz.func26, Tryz.ntmps26
  go_wp2_with fail
  go_cut [2, 4] (fun s2 s4 wx => ∃ g, s2 = .pointer (some ⟨g, 0, none⟩) ∧ s4 = .bool (!em) ∧ Hid (w.heap.size ≤ g) ∧ Hid (PolAt wx g p0) ∧ Hid (Below w.heap.size w wx))
  case first =>
    generalize hact : Act.mk _ _ = act
    have s0 : act.eval (.tmp 0) = .pointer (some ⟨b, 0, none⟩) := by rw [← hact]; rfl
    have hsz : act.tmps.size = 60 := by rw [← hact]; rfl
    obtain ⟨K, hK⟩ : ∃ K : List (Nat × Nat × Value), K = [(0, 9, .pointer (some ⟨b, 0, none⟩)), (1, 10, .pointer (some ⟨b, 0, none⟩)), (2, 11, .pointer (some ⟨b, 5, none⟩)), (3, 12, .slice oa ps.length cap), (4, 13, .pointer (some ⟨b, 0, none⟩)), (5, 14, .pointer (some ⟨b, 0, none⟩)), (6, 15, .pointer (some ⟨b, 7, none⟩)), (7, 16, .int .i64 work), (8, 17, .tuple #[.agg #[.int .i64 p0.mn, .int .i64 p0.mx, .int .i64 p0.goal, .int .i64 p0.slack, .int .i64 p0.up, .int .i64 p0.down, .int .i64 p0.cool], .agg #[.int .i64 d0.node, .int .i64 d0.seq], .bool (!em)]), (9, 8, .tuple #[.agg #[.int .i64 p0.mn, .int .i64 p0.mx, .int .i64 p0.goal, .int .i64 p0.slack, .int .i64 p0.up, .int .i64 p0.down, .int .i64 p0.cool], .agg #[.int .i64 d0.node, .int .i64 d0.seq], .bool (!em)]), (10, 18, .agg #[.int .i64 p0.mn, .int .i64 p0.mx, .int .i64 p0.goal, .int .i64 p0.slack, .int .i64 p0.up, .int .i64 p0.down, .int .i64 p0.cool]), (11, 19, .agg #[.int .i64 d0.node, .int .i64 d0.seq]), (12, 20, .bool (!em)), (17, 4, .bool (!em))] := ⟨_, rfl⟩
    refine wp_region_inv (by kernel_rfl) (fun L a' w' => L.size = 18 ∧ Ag [2, 3, 4, 8, 9, 10, 11, 12, 13, 14, 15, 16, 17, 18, 19, 20] act a' ∧ Knows K L a' ∧ WinReg w 74 71 53 0 [] (ps.map (·.2)) #[.int .i64 0, .int .i64 0, .int .i64 0, .int .i64 0, .int .i64 0, .int .i64 0, .int .i64 0] #[.int .i64 p0.mn, .int .i64 p0.mx, .int .i64 p0.goal, .int .i64 p0.slack, .int .i64 p0.up, .int .i64 p0.down, .int .i64 p0.cool] #[.int .i64 0, .int .i64 0] #[.int .i64 d0.node, .int .i64 d0.seq] true true (L.getD 8 false) (L.getD 13 false) (L.getD 14 false) (L.getD 15 false) (L.getD 16 false) undef (.slice oa ps.length cap) (a'.eval (.tmp 2)) (a'.eval (.tmp 3)) w') ?init ?step ?fin
    case init => exact ⟨rfl, Ag.refl _ _, Knows.none _ _ _, winReg_start HE.out _ _⟩
    case step =>
      intro L a' w' i hi hI
      obtain ⟨hL, hag, hk, hJ⟩ := hI
      obtain ⟨hun, o0, ho0, _⟩ := mem_ready.1 hi
      have hlt : i < 18 := (Array.getElem?_eq_some_iff.1 ho0).1
      have hun0 := getD_unlisted hun
      have hsa : a'.tmps.size = 60 := hag.size.trans hsz
      have e0 : a'.eval (.tmp 0) = .pointer (some ⟨b, 0, none⟩) := (hag.out 0 (by decide)).trans s0
      clear ho0 hun
      rcases (show i = 0 ∨ i = 1 ∨ i = 2 ∨ i = 3 ∨ i = 4 ∨ i = 5 ∨ i = 6 ∨ i = 7 ∨ i = 8 ∨ i = 9 ∨ i = 10 ∨ i = 11 ∨ i = 12 ∨ i = 13 ∨ i = 14 ∨ i = 15 ∨ i = 16 ∨ i = 17 by omega) with rfl | rfl | rfl | rfl | rfl | rfl | rfl | rfl | rfl | rfl | rfl | rfl | rfl | rfl | rfl | rfl | rfl | rfl
      · -- 0: pure 9
        refine step_val (d := 9) (w' := w') (v := .pointer (some ⟨b, 0, none⟩)) rfl rfl rfl (by generalize a'.eval = ρ at e0 ⊢; go_simp) ⟨set_size hL, hag.put (by decide) _, (hk.put (by rw [hsa]; decide) (by rw [hK]; simp)), by rw [getD_set_ne false (show 0 ≠ 8 by decide), getD_set_ne false (show 0 ≠ 13 by decide), getD_set_ne false (show 0 ≠ 14 by decide), getD_set_ne false (show 0 ≠ 15 by decide), getD_set_ne false (show 0 ≠ 16 by decide), eval_put_ne _ (show 9 ≠ 2 by decide), eval_put_ne _ (show 9 ≠ 3 by decide)]; exact hJ⟩
      · -- 1: pure 10
        have e9 : a'.eval (.tmp 9) = .pointer (some ⟨b, 0, none⟩) := hk (0, 9, _) (by rw [hK]; simp) (ready_dep hi rfl (e := ⟨0, .data⟩) (by simp) rfl)
        refine step_val (d := 10) (w' := w') (v := .pointer (some ⟨b, 0, none⟩)) rfl rfl rfl (by generalize a'.eval = ρ at e9 ⊢; go_simp) ⟨set_size hL, hag.put (by decide) _, (hk.put (by rw [hsa]; decide) (by rw [hK]; simp)), by rw [getD_set_ne false (show 1 ≠ 8 by decide), getD_set_ne false (show 1 ≠ 13 by decide), getD_set_ne false (show 1 ≠ 14 by decide), getD_set_ne false (show 1 ≠ 15 by decide), getD_set_ne false (show 1 ≠ 16 by decide), eval_put_ne _ (show 10 ≠ 2 by decide), eval_put_ne _ (show 10 ≠ 3 by decide)]; exact hJ⟩
      · -- 2: pure 11
        have e10 : a'.eval (.tmp 10) = .pointer (some ⟨b, 0, none⟩) := hk (1, 10, _) (by rw [hK]; simp) (ready_dep hi rfl (e := ⟨1, .data⟩) (by simp) rfl)
        refine step_val (d := 11) (w' := w') (v := .pointer (some ⟨b, 5, none⟩)) rfl rfl rfl (by generalize a'.eval = ρ at e10 ⊢; go_simp) ⟨set_size hL, hag.put (by decide) _, (hk.put (by rw [hsa]; decide) (by rw [hK]; simp)), by rw [getD_set_ne false (show 2 ≠ 8 by decide), getD_set_ne false (show 2 ≠ 13 by decide), getD_set_ne false (show 2 ≠ 14 by decide), getD_set_ne false (show 2 ≠ 15 by decide), getD_set_ne false (show 2 ≠ 16 by decide), eval_put_ne _ (show 11 ≠ 2 by decide), eval_put_ne _ (show 11 ≠ 3 by decide)]; exact hJ⟩
      · -- 3: load 12
        have e11 : a'.eval (.tmp 11) = .pointer (some ⟨b, 5, none⟩) := hk (2, 11, _) (by rw [hK]; simp) (ready_dep hi rfl (e := ⟨2, .data⟩) (by simp) rfl)
        have hc0 := HKP.out w' hJ.below
        have hc5 := hc0.1
        have hc7 := hc0.2
        clear hc0
        refine step_val (d := 12) (w' := w') (v := .slice oa ps.length cap) rfl rfl rfl (by generalize a'.eval = ρ at e11 ⊢; go_simp) ⟨set_size hL, hag.put (by decide) _, (hk.put (by rw [hsa]; decide) (by rw [hK]; simp)), by rw [getD_set_ne false (show 3 ≠ 8 by decide), getD_set_ne false (show 3 ≠ 13 by decide), getD_set_ne false (show 3 ≠ 14 by decide), getD_set_ne false (show 3 ≠ 15 by decide), getD_set_ne false (show 3 ≠ 16 by decide), eval_put_ne _ (show 12 ≠ 2 by decide), eval_put_ne _ (show 12 ≠ 3 by decide)]; exact hJ⟩
      · -- 4: pure 13
        refine step_val (d := 13) (w' := w') (v := .pointer (some ⟨b, 0, none⟩)) rfl rfl rfl (by generalize a'.eval = ρ at e0 ⊢; go_simp) ⟨set_size hL, hag.put (by decide) _, (hk.put (by rw [hsa]; decide) (by rw [hK]; simp)), by rw [getD_set_ne false (show 4 ≠ 8 by decide), getD_set_ne false (show 4 ≠ 13 by decide), getD_set_ne false (show 4 ≠ 14 by decide), getD_set_ne false (show 4 ≠ 15 by decide), getD_set_ne false (show 4 ≠ 16 by decide), eval_put_ne _ (show 13 ≠ 2 by decide), eval_put_ne _ (show 13 ≠ 3 by decide)]; exact hJ⟩
      · -- 5: pure 14
        have e13 : a'.eval (.tmp 13) = .pointer (some ⟨b, 0, none⟩) := hk (4, 13, _) (by rw [hK]; simp) (ready_dep hi rfl (e := ⟨4, .data⟩) (by simp) rfl)
        refine step_val (d := 14) (w' := w') (v := .pointer (some ⟨b, 0, none⟩)) rfl rfl rfl (by generalize a'.eval = ρ at e13 ⊢; go_simp) ⟨set_size hL, hag.put (by decide) _, (hk.put (by rw [hsa]; decide) (by rw [hK]; simp)), by rw [getD_set_ne false (show 5 ≠ 8 by decide), getD_set_ne false (show 5 ≠ 13 by decide), getD_set_ne false (show 5 ≠ 14 by decide), getD_set_ne false (show 5 ≠ 15 by decide), getD_set_ne false (show 5 ≠ 16 by decide), eval_put_ne _ (show 14 ≠ 2 by decide), eval_put_ne _ (show 14 ≠ 3 by decide)]; exact hJ⟩
      · -- 6: pure 15
        have e14 : a'.eval (.tmp 14) = .pointer (some ⟨b, 0, none⟩) := hk (5, 14, _) (by rw [hK]; simp) (ready_dep hi rfl (e := ⟨5, .data⟩) (by simp) rfl)
        refine step_val (d := 15) (w' := w') (v := .pointer (some ⟨b, 7, none⟩)) rfl rfl rfl (by generalize a'.eval = ρ at e14 ⊢; go_simp) ⟨set_size hL, hag.put (by decide) _, (hk.put (by rw [hsa]; decide) (by rw [hK]; simp)), by rw [getD_set_ne false (show 6 ≠ 8 by decide), getD_set_ne false (show 6 ≠ 13 by decide), getD_set_ne false (show 6 ≠ 14 by decide), getD_set_ne false (show 6 ≠ 15 by decide), getD_set_ne false (show 6 ≠ 16 by decide), eval_put_ne _ (show 15 ≠ 2 by decide), eval_put_ne _ (show 15 ≠ 3 by decide)]; exact hJ⟩
      · -- 7: load 16
        have e15 : a'.eval (.tmp 15) = .pointer (some ⟨b, 7, none⟩) := hk (6, 15, _) (by rw [hK]; simp) (ready_dep hi rfl (e := ⟨6, .data⟩) (by simp) rfl)
        have hc0 := HKP.out w' hJ.below
        have hc5 := hc0.1
        have hc7 := hc0.2
        clear hc0
        refine step_val (d := 16) (w' := w') (v := .int .i64 work) rfl rfl rfl (by generalize a'.eval = ρ at e15 ⊢; go_simp) ⟨set_size hL, hag.put (by decide) _, (hk.put (by rw [hsa]; decide) (by rw [hK]; simp)), by rw [getD_set_ne false (show 7 ≠ 8 by decide), getD_set_ne false (show 7 ≠ 13 by decide), getD_set_ne false (show 7 ≠ 14 by decide), getD_set_ne false (show 7 ≠ 15 by decide), getD_set_ne false (show 7 ≠ 16 by decide), eval_put_ne _ (show 16 ≠ 2 by decide), eval_put_ne _ (show 16 ≠ 3 by decide)]; exact hJ⟩
      · -- 8: win 17
        have e12 : a'.eval (.tmp 12) = .slice oa ps.length cap := hk (3, 12, _) (by rw [hK]; simp) (ready_dep hi rfl (e := ⟨3, .data⟩) (by simp) rfl)
        have e16 : a'.eval (.tmp 16) = .int .i64 work := hk (7, 16, _) (by rw [hK]; simp) (ready_dep hi rfl (e := ⟨7, .data⟩) (by simp) rfl)
        rw [hun0] at hJ
        have hx := HWN.out w' hJ.below
        refine step_call (d := 17) (f := 41) (args := #[.slice oa ps.length cap, .int .i64 work]) rfl rfl rfl (by have ef : a'.eval (.func 41) = .func (.func 41) #[] #[] := rfl; clear hx; generalize a'.eval = ρ at ef e12 e16 ⊢; go_simp) hx ?_
        rintro e w2 ⟨rfl, _, hb⟩
        refine ⟨_, rfl, ⟨set_size hL, hag.put (by decide) _, (hk.put (by rw [hsa]; decide) (by rw [hK]; simp)), by rw [getD_set_at hL (by decide), getD_set_ne false (show 8 ≠ 13 by decide), getD_set_ne false (show 8 ≠ 14 by decide), getD_set_ne false (show 8 ≠ 15 by decide), getD_set_ne false (show 8 ≠ 16 by decide), eval_put_ne _ (show 17 ≠ 2 by decide), eval_put_ne _ (show 17 ≠ 3 by decide)]; exact hJ.win hb⟩⟩
      · -- 9: pure 8
        have e17 : a'.eval (.tmp 17) = .tuple #[.agg #[.int .i64 p0.mn, .int .i64 p0.mx, .int .i64 p0.goal, .int .i64 p0.slack, .int .i64 p0.up, .int .i64 p0.down, .int .i64 p0.cool], .agg #[.int .i64 d0.node, .int .i64 d0.seq], .bool (!em)] := hk (8, 17, _) (by rw [hK]; simp) (ready_dep hi rfl (e := ⟨8, .data⟩) (by simp) rfl)
        refine step_val (d := 8) (w' := w') (v := .tuple #[.agg #[.int .i64 p0.mn, .int .i64 p0.mx, .int .i64 p0.goal, .int .i64 p0.slack, .int .i64 p0.up, .int .i64 p0.down, .int .i64 p0.cool], .agg #[.int .i64 d0.node, .int .i64 d0.seq], .bool (!em)]) rfl rfl rfl (by generalize a'.eval = ρ at e17 ⊢; go_simp) ⟨set_size hL, hag.put (by decide) _, (hk.put (by rw [hsa]; decide) (by rw [hK]; simp)), by rw [getD_set_ne false (show 9 ≠ 8 by decide), getD_set_ne false (show 9 ≠ 13 by decide), getD_set_ne false (show 9 ≠ 14 by decide), getD_set_ne false (show 9 ≠ 15 by decide), getD_set_ne false (show 9 ≠ 16 by decide), eval_put_ne _ (show 8 ≠ 2 by decide), eval_put_ne _ (show 8 ≠ 3 by decide)]; exact hJ⟩
      · -- 10: pure 18
        have e8 : a'.eval (.tmp 8) = .tuple #[.agg #[.int .i64 p0.mn, .int .i64 p0.mx, .int .i64 p0.goal, .int .i64 p0.slack, .int .i64 p0.up, .int .i64 p0.down, .int .i64 p0.cool], .agg #[.int .i64 d0.node, .int .i64 d0.seq], .bool (!em)] := hk (9, 8, _) (by rw [hK]; simp) (ready_dep hi rfl (e := ⟨9, .data⟩) (by simp) rfl)
        refine step_val (d := 18) (w' := w') (v := .agg #[.int .i64 p0.mn, .int .i64 p0.mx, .int .i64 p0.goal, .int .i64 p0.slack, .int .i64 p0.up, .int .i64 p0.down, .int .i64 p0.cool]) rfl rfl rfl (by generalize a'.eval = ρ at e8 ⊢; go_simp) ⟨set_size hL, hag.put (by decide) _, (hk.put (by rw [hsa]; decide) (by rw [hK]; simp)), by rw [getD_set_ne false (show 10 ≠ 8 by decide), getD_set_ne false (show 10 ≠ 13 by decide), getD_set_ne false (show 10 ≠ 14 by decide), getD_set_ne false (show 10 ≠ 15 by decide), getD_set_ne false (show 10 ≠ 16 by decide), eval_put_ne _ (show 18 ≠ 2 by decide), eval_put_ne _ (show 18 ≠ 3 by decide)]; exact hJ⟩
      · -- 11: pure 19
        have e8 : a'.eval (.tmp 8) = .tuple #[.agg #[.int .i64 p0.mn, .int .i64 p0.mx, .int .i64 p0.goal, .int .i64 p0.slack, .int .i64 p0.up, .int .i64 p0.down, .int .i64 p0.cool], .agg #[.int .i64 d0.node, .int .i64 d0.seq], .bool (!em)] := hk (9, 8, _) (by rw [hK]; simp) (ready_dep hi rfl (e := ⟨9, .data⟩) (by simp) rfl)
        refine step_val (d := 19) (w' := w') (v := .agg #[.int .i64 d0.node, .int .i64 d0.seq]) rfl rfl rfl (by generalize a'.eval = ρ at e8 ⊢; go_simp) ⟨set_size hL, hag.put (by decide) _, (hk.put (by rw [hsa]; decide) (by rw [hK]; simp)), by rw [getD_set_ne false (show 11 ≠ 8 by decide), getD_set_ne false (show 11 ≠ 13 by decide), getD_set_ne false (show 11 ≠ 14 by decide), getD_set_ne false (show 11 ≠ 15 by decide), getD_set_ne false (show 11 ≠ 16 by decide), eval_put_ne _ (show 19 ≠ 2 by decide), eval_put_ne _ (show 19 ≠ 3 by decide)]; exact hJ⟩
      · -- 12: pure 20
        have e8 : a'.eval (.tmp 8) = .tuple #[.agg #[.int .i64 p0.mn, .int .i64 p0.mx, .int .i64 p0.goal, .int .i64 p0.slack, .int .i64 p0.up, .int .i64 p0.down, .int .i64 p0.cool], .agg #[.int .i64 d0.node, .int .i64 d0.seq], .bool (!em)] := hk (9, 8, _) (by rw [hK]; simp) (ready_dep hi rfl (e := ⟨9, .data⟩) (by simp) rfl)
        refine step_val (d := 20) (w' := w') (v := .bool (!em)) rfl rfl rfl (by generalize a'.eval = ρ at e8 ⊢; go_simp) ⟨set_size hL, hag.put (by decide) _, (hk.put (by rw [hsa]; decide) (by rw [hK]; simp)), by rw [getD_set_ne false (show 12 ≠ 8 by decide), getD_set_ne false (show 12 ≠ 13 by decide), getD_set_ne false (show 12 ≠ 14 by decide), getD_set_ne false (show 12 ≠ 15 by decide), getD_set_ne false (show 12 ≠ 16 by decide), eval_put_ne _ (show 20 ≠ 2 by decide), eval_put_ne _ (show 20 ≠ 3 by decide)]; exact hJ⟩
      · -- 13: allocA 2
        rw [hun0] at hJ
        refine step_val (d := 2) (v := .pointer (some ⟨w'.heap.size, 0, none⟩)) (w' := w'.alloc (.cells #[.int .i64 0, .int .i64 0, .int .i64 0, .int .i64 0, .int .i64 0, .int .i64 0, .int .i64 0] 53)) rfl rfl rfl (by go_simp) ⟨set_size hL, hag.put (by decide) _, (hk.put (by rw [hsa]; decide) (by rw [hK]; simp)), by rw [getD_set_ne false (show 13 ≠ 8 by decide), getD_set_at hL (by decide), getD_set_ne false (show 13 ≠ 14 by decide), getD_set_ne false (show 13 ≠ 15 by decide), getD_set_ne false (show 13 ≠ 16 by decide), eval_put_same _ (by rw [hsa]; decide), eval_put_ne _ (show 2 ≠ 3 by decide)]; exact hJ.mkA⟩
      · -- 14: allocD 3
        rw [hun0] at hJ
        refine step_val (d := 3) (v := .pointer (some ⟨w'.heap.size, 0, none⟩)) (w' := w'.alloc (.cells #[.int .i64 0, .int .i64 0] 71)) rfl rfl rfl (by go_simp) ⟨set_size hL, hag.put (by decide) _, (hk.put (by rw [hsa]; decide) (by rw [hK]; simp)), by rw [getD_set_ne false (show 14 ≠ 8 by decide), getD_set_ne false (show 14 ≠ 13 by decide), getD_set_at hL (by decide), getD_set_ne false (show 14 ≠ 15 by decide), getD_set_ne false (show 14 ≠ 16 by decide), eval_put_ne _ (show 3 ≠ 2 by decide), eval_put_same _ (by rw [hsa]; decide)]; exact hJ.mkD⟩
      · -- 15: storeA None
        have hn : L.getD 13 false = true := (ready_dep hi rfl (e := ⟨13, .data⟩) (by simp) rfl)
        have e18 : a'.eval (.tmp 18) = .agg #[.int .i64 p0.mn, .int .i64 p0.mx, .int .i64 p0.goal, .int .i64 p0.slack, .int .i64 p0.up, .int .i64 p0.down, .int .i64 p0.cool] := hk (10, 18, _) (by rw [hK]; simp) (ready_dep hi rfl (e := ⟨10, .data⟩) (by simp) rfl)
        have h9 : L.getD 8 false = true := (ready_dep hi rfl (e := ⟨8, .phase⟩) (by simp) rfl)
        rw [hun0, hn, h9] at hJ
        obtain ⟨g, hv, hg, hh⟩ := hJ.pa rfl
        refine step_store rfl rfl rfl 53 _ _ rfl g _ #[.int .i64 p0.mn, .int .i64 p0.mx, .int .i64 p0.goal, .int .i64 p0.slack, .int .i64 p0.up, .int .i64 p0.down, .int .i64 p0.cool] hv e18 hh (by kernel_rfl) rfl (by simp [Value.oneCell']) ⟨set_size hL, hag, hk.put_none (by rw [hK]; simp), by rw [getD_set_ne false (show 15 ≠ 8 by decide), getD_set_ne false (show 15 ≠ 13 by decide), getD_set_ne false (show 15 ≠ 14 by decide), getD_set_at hL (by decide), getD_set_ne false (show 15 ≠ 16 by decide)]; rw [hn, h9]; exact hJ.setA (by decide) hv hg hh⟩
      · -- 16: storeD None
        have hn : L.getD 14 false = true := (ready_dep hi rfl (e := ⟨14, .data⟩) (by simp) rfl)
        have e19 : a'.eval (.tmp 19) = .agg #[.int .i64 d0.node, .int .i64 d0.seq] := hk (11, 19, _) (by rw [hK]; simp) (ready_dep hi rfl (e := ⟨11, .data⟩) (by simp) rfl)
        have h9 : L.getD 8 false = true := (ready_dep hi rfl (e := ⟨8, .phase⟩) (by simp) rfl)
        rw [hun0, hn, h9] at hJ
        obtain ⟨g, hv, hg, hh⟩ := hJ.pd rfl
        refine step_store rfl rfl rfl 71 _ _ rfl g _ #[.int .i64 d0.node, .int .i64 d0.seq] hv e19 hh (by kernel_rfl) rfl (by simp [Value.oneCell']) ⟨set_size hL, hag, hk.put_none (by rw [hK]; simp), by rw [getD_set_ne false (show 16 ≠ 8 by decide), getD_set_ne false (show 16 ≠ 13 by decide), getD_set_ne false (show 16 ≠ 14 by decide), getD_set_ne false (show 16 ≠ 15 by decide), getD_set_at hL (by decide)]; rw [hn, h9]; exact hJ.setD (by decide) hv hg hh⟩
      · -- 17: pure 4
        have e20 : a'.eval (.tmp 20) = .bool (!em) := hk (12, 20, _) (by rw [hK]; simp) (ready_dep hi rfl (e := ⟨12, .data⟩) (by simp) rfl)
        refine step_val (d := 4) (w' := w') (v := .bool (!em)) rfl rfl rfl (by generalize a'.eval = ρ at e20 ⊢; go_simp) ⟨set_size hL, hag.put (by decide) _, (hk.put (by rw [hsa]; decide) (by rw [hK]; simp)), by rw [getD_set_ne false (show 17 ≠ 8 by decide), getD_set_ne false (show 17 ≠ 13 by decide), getD_set_ne false (show 17 ≠ 14 by decide), getD_set_ne false (show 17 ≠ 15 by decide), getD_set_ne false (show 17 ≠ 16 by decide), eval_put_ne _ (show 4 ≠ 2 by decide), eval_put_ne _ (show 4 ≠ 3 by decide)]; exact hJ⟩
    case fin =>
      intro L a' w' hr hI
      obtain ⟨hL, hag, hk, hJ⟩ := hI
      have hall := all_listed_b hL rfl (by kernel_rfl) hr
      have hfin := Ag.final _ (by rw [hsz]; decide) hag
      have v9 : a'.eval (.tmp 9) = .pointer (some ⟨b, 0, none⟩) := hk (0, 9, _) (by rw [hK]; simp) (hall 0 (by decide))
      have v10 : a'.eval (.tmp 10) = .pointer (some ⟨b, 0, none⟩) := hk (1, 10, _) (by rw [hK]; simp) (hall 1 (by decide))
      have v11 : a'.eval (.tmp 11) = .pointer (some ⟨b, 5, none⟩) := hk (2, 11, _) (by rw [hK]; simp) (hall 2 (by decide))
      have v12 : a'.eval (.tmp 12) = .slice oa ps.length cap := hk (3, 12, _) (by rw [hK]; simp) (hall 3 (by decide))
      have v13 : a'.eval (.tmp 13) = .pointer (some ⟨b, 0, none⟩) := hk (4, 13, _) (by rw [hK]; simp) (hall 4 (by decide))
      have v14 : a'.eval (.tmp 14) = .pointer (some ⟨b, 0, none⟩) := hk (5, 14, _) (by rw [hK]; simp) (hall 5 (by decide))
      have v15 : a'.eval (.tmp 15) = .pointer (some ⟨b, 7, none⟩) := hk (6, 15, _) (by rw [hK]; simp) (hall 6 (by decide))
      have v16 : a'.eval (.tmp 16) = .int .i64 work := hk (7, 16, _) (by rw [hK]; simp) (hall 7 (by decide))
      have v17 : a'.eval (.tmp 17) = .tuple #[.agg #[.int .i64 p0.mn, .int .i64 p0.mx, .int .i64 p0.goal, .int .i64 p0.slack, .int .i64 p0.up, .int .i64 p0.down, .int .i64 p0.cool], .agg #[.int .i64 d0.node, .int .i64 d0.seq], .bool (!em)] := hk (8, 17, _) (by rw [hK]; simp) (hall 8 (by decide))
      have v8 : a'.eval (.tmp 8) = .tuple #[.agg #[.int .i64 p0.mn, .int .i64 p0.mx, .int .i64 p0.goal, .int .i64 p0.slack, .int .i64 p0.up, .int .i64 p0.down, .int .i64 p0.cool], .agg #[.int .i64 d0.node, .int .i64 d0.seq], .bool (!em)] := hk (9, 8, _) (by rw [hK]; simp) (hall 9 (by decide))
      have v18 : a'.eval (.tmp 18) = .agg #[.int .i64 p0.mn, .int .i64 p0.mx, .int .i64 p0.goal, .int .i64 p0.slack, .int .i64 p0.up, .int .i64 p0.down, .int .i64 p0.cool] := hk (10, 18, _) (by rw [hK]; simp) (hall 10 (by decide))
      have v19 : a'.eval (.tmp 19) = .agg #[.int .i64 d0.node, .int .i64 d0.seq] := hk (11, 19, _) (by rw [hK]; simp) (hall 11 (by decide))
      have v20 : a'.eval (.tmp 20) = .bool (!em) := hk (12, 20, _) (by rw [hK]; simp) (hall 12 (by decide))
      have v4 : a'.eval (.tmp 4) = .bool (!em) := hk (17, 4, _) (by rw [hK]; simp) (hall 17 (by decide))
      obtain ⟨g1, hg1, hz1, hh1⟩ := hJ.pa (hall 13 (by decide))
      obtain ⟨g2, hg2, _, hh2⟩ := hJ.pd (hall 14 (by decide))
      rw [hall 15 (by decide), if_pos rfl] at hh1
      have HB5 := Lib.hid hJ.below
      have HC1 := Lib.hid (show PolAt w' g1 p0 from hh1)
      clear hk hag hJ hr hall hK hh1 hh2
      simp only [List.foldl, hg1, hg2, v9, v10, v11, v12, v13, v14, v15, v16, v17, v8, v18, v19, v20, v4] at hfin
      subst hfin
      subst hact
      simp only [Act.put, List.setIfInBounds_toArray, List.set_cons_succ, List.set_cons_zero]
      go_step
      go_step
      go_meet
      exact ⟨g1, rfl, rfl, Lib.hid hz1, HC1, HB5⟩
  case rest =>
    obtain ⟨g, rfl, rfl, HG, HP, HB1⟩ := hcut
    clear c5 c7 c1 hblt
    have hgr : ∀ W, Below wc.heap.size wc W → w.grownBy W (some b) := fun W hW => grown_of_below (HB1.out.trans (hW.mono HB1.out.size)) _
    have HGR := Lib.hid hgr
    clear hgr
    have hno : ∀ {x : Bool}, ke.isSome = x → x = false → ∀ p' load', ke = some (p', load') → QAt wc b c t (.slice oa ps.length cap) live work now tick p' load' := fun h1 h2 p' l' h => by rw [h2, h] at h1; exact absurd h1 (by simp)
    have HNO := Lib.hid (fun (x : Bool) (h1 : ke.isSome = x) (h2 : x = false) p' load' (h : ke = some (p', load')) => (show False by rw [h2, h] at h1; exact absurd h1 (by simp)))
    clear hno
    cases em with
    | true =>
      simp only [Bool.not_true] at *
      go_wp2_with fail
      refine (HM.out false _).mono ?_
      rintro e w2 ⟨rfl, rfl⟩
      simp only [askE, Bool.false_eq_true, if_false]
      go_wp2_with fail
      exact ⟨rfl, rfl, HGR.out _ (Below.refl _ _), fun p' l' h => (HNO.out _ HKN.out rfl p' l' h).elim⟩
    | false =>
      obtain ⟨g0, g1, g2, g3, g4, g5, g6⟩ := HP.out.cells
      simp only [Bool.not_false] at *
      go_wp2_with fail
      refine (HRP.out _).mono ?_
      rintro e w2 ⟨rfl, hb2⟩
      have HB2 := Lib.hid (HB1.out.trans (hb2.mono HB1.out.size))
      have HBC := Lib.hid hb2
      have HP2 := Lib.hid (HP.out.below hb2)
      clear g0 g1 g2 g3 g4 g5 g6 hb2
      cases rb with
      | false =>
        go_wp2_with fail
        refine (HM.out false _).mono ?_
        rintro e w3 ⟨rfl, rfl⟩
        simp only [askE, Bool.false_eq_true, if_false]
        go_wp2_with fail
        exact ⟨rfl, rfl, HGR.out _ HBC.out, fun p' l' h => (HNO.out _ HKN.out rfl p' l' h).elim⟩
      | true =>
        go_wp2_with fail
        refine (HM.out true _).mono ?_
        rintro e w3 ⟨rfl, rfl⟩
        simp only [askE, if_true]
        go_wp2_with fail
        go_cut [5, 6, 7] (fun s5 s6 s7 wx => s5 = .int .i64 lo ∧ s6 = .int .i64 nn ∧ s7 = .int .i64 0 ∧ Hid (Below w2.heap.size w2 wx))
        case first =>
          obtain ⟨d5, d7, d1, _⟩ := HQ.out _ (below_drew HB2.out)
          have hld2 : ∀ W, Below w2.heap.size w2 W → Calls Tryz.prog 43 #[.slice oa ps.length cap, .int .i64 work, .int .i64 c.window] W fun e w' => e = .returned (.tuple #[.int .i64 lo, .int .i64 nn, .int .i64 0]) ∧ Below W.heap.size W w' := fun W hW => HLD2.out W (HB2.out.trans (hW.mono HB2.out.size))
          have HLD3 := Lib.hid hld2
          clear hld2
          go_region_held (fun w' => w'.cell? ⟨b, 5, none⟩ = some (.slice oa ps.length cap) ∧ w'.cell? ⟨b, 7, none⟩ = some (.int .i64 work) ∧ w'.cell? ⟨b, 1, none⟩ = some (.int .i64 c.window))
            (first | exact ⟨d5, d7, d1⟩ | exact ⟨(HQ.out _ HB3.out).1, (HQ.out _ HB3.out).2.1, (HQ.out _ HB3.out).2.2.1⟩)
            (first | (go_at_call 43; refine (HLD3.out _ (below_drew (Below.refl _ _))).mono ?_; rintro e w3 ⟨rfl, hb3⟩; have HB4 := Lib.hid ((below_drew (Below.refl w2.heap.size w2)).trans hb3); have HB3 := Lib.hid (HB2.out.trans (HB4.out.mono HB2.out.size)); clear hb3))
          all_goals
            go_wp2_with fail
            go_meet
            exact ⟨rfl, rfl, rfl, HB4⟩
        case rest =>
          obtain ⟨rfl, rfl, rfl, HB4⟩ := hcut
          have HB5 := Lib.hid (HBC.out.trans (HB4.out.mono HBC.out.size))
          obtain ⟨g0, g1, g2, g3, g4, g5, g6⟩ := (HP2.out.below HB4.out).cells
          have HA5 := Lib.hid (HA.out.below (HB1.out.trans (HB5.out.mono HB1.out.size)))
          cases nb with
          | false =>
            go_wp2_with fail
            refine (HM.out false _).mono ?_
            rintro e w3 ⟨rfl, rfl⟩
            simp only [askE, Bool.false_eq_true, if_false]
            go_wp2_with fail
            exact ⟨rfl, rfl, HGR.out _ HB5.out, fun p' l' h => (HNO.out _ HKN.out rfl p' l' h).elim⟩
          | true =>
            go_wp2_with fail
            refine (HM.out true _).mono ?_
            rintro e w3 ⟨rfl, rfl⟩
            simp only [askE, if_true]
            have k10 : wc.cell? ⟨b, 10, none⟩ = some (.int .i64 p.mn) := HA5.out.cell 10
            have k11 : wc.cell? ⟨b, 11, none⟩ = some (.int .i64 p.mx) := HA5.out.cell 11
            have k12 : wc.cell? ⟨b, 12, none⟩ = some (.int .i64 p.goal) := HA5.out.cell 12
            have k13 : wc.cell? ⟨b, 13, none⟩ = some (.int .i64 p.slack) := HA5.out.cell 13
            have k14 : wc.cell? ⟨b, 14, none⟩ = some (.int .i64 p.up) := HA5.out.cell 14
            have k15 : wc.cell? ⟨b, 15, none⟩ = some (.int .i64 p.down) := HA5.out.cell 15
            have k16 : wc.cell? ⟨b, 16, none⟩ = some (.int .i64 p.cool) := HA5.out.cell 16
            have k17 : wc.cell? ⟨b, 17, none⟩ = some (.int .i64 load) := HA5.out.cell 17
            have z10 := HA5.out.frozen 10
            have z11 := HA5.out.frozen 11
            have z12 := HA5.out.frozen 12
            have z13 := HA5.out.frozen 13
            have z14 := HA5.out.frozen 14
            have z15 := HA5.out.frozen 15
            have z16 := HA5.out.frozen 16
            have z17 := HA5.out.frozen 17
            go_wp2_with fail
            have e1 := (HA5.out : wc.heap[b]? = _)
            refine ⟨rfl, _, results_none rfl _ _ _, rfl, grown_setC (grown_setC (grown_setC (grown_setC (grown_setC (grown_setC (grown_setC (grown_setC (HGR.out _ HB5.out) _) _) _) _) _) _) _) _, ?_⟩
            intro p' load' hk
            obtain ⟨rfl, rfl⟩ := HK.out p' load' hk
            refine (heap_setCell_same _ b _ _ _ _ _ (heap_setCell_same _ b _ _ _ _ _ (heap_setCell_same _ b _ _ _ _ _ (heap_setCell_same _ b _ _ _ _ _ (heap_setCell_same _ b _ _ _ _ _ (heap_setCell_same _ b _ _ _ _ _ (heap_setCell_same _ b _ _ _ _ _ (heap_setCell_same _ b _ _ _ _ _ e1)))))))).trans ?_
            rfl
end
end Go.Proofs.YtjgbflclhkeibaaGreat
