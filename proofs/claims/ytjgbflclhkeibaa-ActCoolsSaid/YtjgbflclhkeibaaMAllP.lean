/-
  The actuator's functions at any workload; the events of known; alive walked.
  The law's own example, walked.
-/
import Derived.Test.YtjgbflclhkeibaaPlan
import Derived.Test.YtjgbflclhkeibaaMActP
namespace Go.Proofs.Ytjgbflclhkeibaa
open Go.Shelf Go.RowKit Go.Lib Go.Sort
set_option linter.unusedVariables false
def inW (work : Int) : Prop := 0 ≤ work ∧ work ≤ 7
instance (work : Int) : Decidable (inW work) := by unfold inW; infer_instance
def recentA (ts : Nat → Trk) (work : Int) : List Int := if inW work then (ts work.toNat).wished else []
def planA (c : ACfg) (ts : Nat → Trk) (evs : List Ev) (live : List Int) (work now tick : Int) : (Int × Int) × (Nat → Trk) :=
  if inW work then ((planI c (ts work.toNat) evs live work now tick).1, upd ts work.toNat (planI c (ts work.toNat) evs live work now tick).2) else ((0, 2), ts)
def doneA (ts : Nat → Trk) (work tick : Int) : Int × (Nat → Trk) :=
  if inW work then (0, upd ts work.toNat ⟨(ts work.toNat).wished, true, tick⟩) else (2, ts)
section
variable (ab : Nat) (c : ACfg) (vs : Nat → Value) (ts : Nat → Trk) (w : World)
theorem recent_all (work : Int) (h : AObj ab w c vs ts) :
    Calls Try.prog 12 #[.pointer (some ⟨ab, 0, none⟩), .int .i64 work] w fun e w' => ∃ v', e = .returned v' ∧ Owns icells 1 w.heap.size 3 w' v' (recentA ts work) ∧ Below w.heap.size w w' := by
  unfold recentA
  by_cases hw : inW work
  · rw [if_pos hw]
    obtain ⟨h0, h7⟩ := hw
    obtain ⟨n, rfl⟩ := Int.eq_ofNat_of_zero_le h0
    exact recent_in ab c vs ts n (by omega) w h
  · rw [if_neg hw]
    exact (recent_out ab work hw w).mono fun e w' ⟨he, hww⟩ => ⟨_, he, Owns.nil _ _ _ _ _, by rw [← hww]; exact Below.refl _ _⟩
theorem done_all (work tick : Int) (h : AObj ab w c vs ts) :
    Calls Try.prog 11 #[.pointer (some ⟨ab, 0, none⟩), .int .i64 work, .int .i64 tick] w fun e w' => e = .returned (.int .i64 (doneA ts work tick).1) ∧ AObj ab w' c vs (doneA ts work tick).2 ∧ w.grownBy w' (some ab) := by
  unfold doneA
  by_cases hw : inW work
  · rw [if_pos hw]
    obtain ⟨h0, h7⟩ := hw
    obtain ⟨n, rfl⟩ := Int.eq_ofNat_of_zero_le h0
    exact done_in ab c vs ts n (by omega) tick w h
  · rw [if_neg hw]
    exact (done_out ab work tick hw w).mono fun e w' ⟨he, hww⟩ => ⟨he, by rw [← hww]; exact h, by rw [← hww]; exact World.grownBy.refl _ _⟩
theorem plan_all (oa : Option Addr) (cap : Nat) (ps : List PEv) (ol : Option Addr) (capl : Nat) (nodes : List Int) (work now tick : Int) (hc : c.right) (hsalt : 0 ≤ c.salt ∧ c.salt < 18446744073709551616) (ha : AObj ab w c vs ts) (hE : EvsAt w (.slice oa ps.length cap) ps) (hl : ps.length ≤ 1000000) (hr : ∀ p ∈ ps, p.2.rem.length ≤ 1000000) (hN : SlAt icells w (.slice ol nodes.length capl) nodes) (hnl : nodes.length ≤ 1000000) :
    Calls Try.prog 9 #[.pointer (some ⟨ab, 0, none⟩), .slice oa ps.length cap, .slice ol nodes.length capl, .int .i64 work, .int .i64 now, .int .i64 tick] w fun e w' =>
      e = .returned (.tuple #[.int .i64 (planA c ts (ps.map (·.2)) nodes work now tick).1.1, .int .i64 (planA c ts (ps.map (·.2)) nodes work now tick).1.2]) ∧
      (∃ vs', AObj ab w' c vs' (planA c ts (ps.map (·.2)) nodes work now tick).2 ∧ ∀ m k, (vs' m).ownBlock = some k → w.heap.size ≤ k ∨ (vs m).ownBlock = some k) ∧ w.grownBy w' (some ab) := by
  unfold planA
  by_cases hw : inW work
  · rw [if_pos hw]
    obtain ⟨h0, h7⟩ := hw
    obtain ⟨n, rfl⟩ := Int.eq_ofNat_of_zero_le h0
    exact (plan_in ab c vs ts oa cap ps ol capl nodes now tick w n (by omega) hc hsalt ha hE hl hr hN hnl).mono fun e w' ⟨he, ⟨v', ho, hf⟩, hg⟩ => ⟨he, ⟨_, ho, fun m k hk => by
      unfold upd at hk
      split at hk
      · subst_vars; exact hf k hk
      · exact .inr hk⟩, hg⟩
  · rw [if_neg hw]
    exact (plan_out ab oa cap ps ol capl nodes now tick w work hw).mono fun e w' ⟨he, hb⟩ => ⟨he, ⟨vs, ha.below hb, fun m k hk => .inr hk⟩, grown_of_below hb _⟩
end
/-- the events of known as they lie in memory, of the workloads a and b -/
def knownCells (p : Pol) (load a b : Int) : Array Value :=
  #[.int .i64 0, .int .i64 1, .int .i64 1, .int .i64 2, .int .i64 a, .int .i64 0, .int .i64 p.mn, .int .i64 p.mx, .int .i64 p.goal, .int .i64 p.slack, .int .i64 p.up, .int .i64 p.down, .int .i64 p.cool, .slice none 0 0,
    .int .i64 0, .int .i64 2, .int .i64 2, .int .i64 1, .int .i64 b, .int .i64 load, .int .i64 0, .int .i64 0, .int .i64 0, .int .i64 0, .int .i64 0, .int .i64 0, .int .i64 0, .slice none 0 0]
def knownP (p : Pol) (load a : Int) : List PEv := [(⟨none, 0, 0⟩, ⟨⟨0, 1⟩, 1, 2, a, 0, p, []⟩), (⟨none, 0, 0⟩, ⟨⟨0, 2⟩, 2, 1, a, load, zeroPol, []⟩)]
theorem knownP_evs (p : Pol) (load a : Int) : (knownP p load a).map (·.2) = knownE p load a := rfl
theorem knownP_rem (p : Pol) (load a : Int) : ∀ x ∈ knownP p load a, x.2.rem.length ≤ 1000000 := by
  intro x hx
  simp only [knownP, List.mem_cons, List.not_mem_nil, or_false] at hx
  rcases hx with rfl | rfl <;> simp
theorem evs_known {eb : Nat} {W : World} {p : Pol} {load a : Int} {t : TypeId} (h : W.heap[eb]? = some (.cells (knownCells p load a a) t)) : EvsAt W (.slice (some ⟨eb, 0, none⟩) 2 2) (knownP p load a) := by
  refine ⟨SlAt.lay (l := knownP p load a) (by simp [knownP]) fun j u hj => ?_, fun x hx => ?_⟩
  · rw [Nat.zero_add, cell_of_row _ eb j _ _ _ h, ← Array.getElem?_toList]
    exact hj
  · simp only [knownP, List.mem_cons, List.not_mem_nil, or_false] at hx
    rcases hx with rfl | rfl <;> exact SlAt.nil _ _
theorem known_any (p : Pol) (load : Int) (w : World) :
    Calls Try.prog 7 #[.agg #[.int .i64 p.mn, .int .i64 p.mx, .int .i64 p.goal, .int .i64 p.slack, .int .i64 p.up, .int .i64 p.down, .int .i64 p.cool], .int .i64 load] w fun e w' =>
      ∃ eb, e = .returned (.slice (some ⟨eb, 0, none⟩) 2 2) ∧ w.heap.size ≤ eb ∧ w'.heap[eb]? = some (.cells (knownCells p load 0 0) 36) ∧ Below w.heap.size w w' := by
  go_enter Try.func7, Try.ntmps7
  go_wp2_with fail
  go_ret
  refine ⟨w.heap.size + 1, rfl, by omega, ?_, ?_⟩
  · have := heap_alloc_new (w.alloc (.cells #[.int .i64 p.mn, .int .i64 p.mx, .int .i64 p.goal, .int .i64 p.slack, .int .i64 p.up, .int .i64 p.down, .int .i64 p.cool] 31)) (.cells (knownCells p load 0 0) 36)
    simp only [World.alloc, Array.size_push] at this ⊢
    exact this
  · exact ((Below.refl _ _).alloc (Nat.le_refl _) _).alloc (by simp) _
/-- an actuator at block ab, what is known at block eb, and what was done with a workload, behind whatever was made -/
structure ActSt (ab eb : Nat) (c : ACfg) (p : Pol) (load : Int) (n : Nat) (w W : World) (t : Trk) : Prop where
  below : Below w.heap.size w W
  hab : w.heap.size ≤ ab
  heb : eb ≠ ab
  evs : W.heap[eb]? = some (.cells (knownCells p load n n) 36)
  obj : ∃ vs ts, AObj ab W c vs ts ∧ ts n = t
section
variable {ab eb : Nat} {c : ACfg} {p : Pol} {load : Int} {n : Nat} {w W : World} {t : Trk}
theorem ActSt.ablt (h : ActSt ab eb c p load n w W t) : ab < W.heap.size := by obtain ⟨vs, ts, ho, _⟩ := h.obj; exact ho.lt
theorem ActSt.eblt (h : ActSt ab eb c p load n w W t) : eb < W.heap.size := (Array.getElem?_eq_some_iff.1 h.evs).1
theorem ActSt.on (h : ActSt ab eb c p load n w W t) {W' : World} (hb : Below W.heap.size W W') : ActSt ab eb c p load n w W' t := by
  obtain ⟨vs, ts, ho, ht⟩ := h.obj
  exact ⟨h.below.trans (hb.mono h.below.size), h.hab, h.heb, (hb.block eb h.eblt).trans h.evs, vs, ts, ho.below hb, ht⟩
theorem ActSt.turn (h : ActSt ab eb c p load n w W t) {W' : World} {t' : Trk} (hg : W.grownBy W' (some ab)) (ho : ∃ vs ts, AObj ab W' c vs ts ∧ ts n = t') : ActSt ab eb c p load n w W' t' :=
  ⟨below_grown h.below hg h.hab h.below.size, h.hab, h.heb, (hg.block eb h.eblt (fun e => h.heb (Option.some.inj e))).trans h.evs, ho⟩
theorem ActSt.plan (h : ActSt ab eb c p load n w W t) (hn : n < 8) (hc : c.right) (hs : 0 ≤ c.salt ∧ c.salt < 18446744073709551616) (x now tick : Int) :
    Calls Try.prog 9 #[.pointer (some ⟨ab, 0, none⟩), .slice (some ⟨eb, 0, none⟩) 2 2, .slice (some ⟨W.heap.size, 0, none⟩) 1 1, .int .i64 (n : Int), .int .i64 now, .int .i64 tick] (W.alloc (.cells #[.int .i64 x] 3)) fun e w' =>
      e = .returned (.tuple #[.int .i64 (planI c t (knownE p load n) [x] n now tick).1.1, .int .i64 (planI c t (knownE p load n) [x] n now tick).1.2]) ∧ ActSt ab eb c p load n w w' (planI c t (knownE p load n) [x] n now tick).2 ∧ W.grownBy w' (some ab) := by
  have hb1 : Below W.heap.size W (W.alloc (.cells #[.int .i64 x] 3)) := (Below.refl _ _).alloc (Nat.le_refl _) _
  have h1 := h.on hb1
  obtain ⟨vs, ts, ho, ht⟩ := h1.obj
  have hp := plan_in ab c vs ts (some ⟨eb, 0, none⟩) 2 (knownP p load n) (some ⟨W.heap.size, 0, none⟩) 1 [x] now tick (W.alloc (.cells #[.int .i64 x] 3)) n hn hc hs ho (evs_known h1.evs) (by simp [knownP]) (knownP_rem _ _ _) (slAt_new _ _ _ _ _ _ _ rfl rfl (by simp)) (by simp)
  rw [ht, knownP_evs] at hp
  exact hp.mono fun e w' ⟨he, ⟨v', ho', _⟩, hg⟩ => ⟨he, h1.turn hg ⟨_, _, ho', upd_same _ _ _⟩, (grown_of_below hb1 _).trans hg⟩
theorem ActSt.done (h : ActSt ab eb c p load n w W t) (hn : n < 8) (tick : Int) :
    Calls Try.prog 11 #[.pointer (some ⟨ab, 0, none⟩), .int .i64 (n : Int), .int .i64 tick] W fun e w' => e = .returned (.int .i64 0) ∧ ActSt ab eb c p load n w w' ⟨t.wished, true, tick⟩ ∧ W.grownBy w' (some ab) := by
  obtain ⟨vs, ts, ho, ht⟩ := h.obj
  exact (done_in ab c vs ts n hn tick W ho).mono fun e w' ⟨he, ho', hg⟩ => ⟨he, h.turn hg ⟨_, _, ho', by rw [upd_same, ht]⟩, hg⟩
theorem ActSt.recent (h : ActSt ab eb c p load n w W t) (hn : n < 8) :
    Calls Try.prog 12 #[.pointer (some ⟨ab, 0, none⟩), .int .i64 (n : Int)] W fun e w' => ∃ v', e = .returned v' ∧ Owns icells 1 W.heap.size 3 w' v' t.wished ∧ ActSt ab eb c p load n w w' t ∧ W.grownBy w' (some ab) := by
  obtain ⟨vs, ts, ho, ht⟩ := h.obj
  exact (recent_in ab c vs ts n hn W ho).mono fun e w' ⟨v', he, hi, hb⟩ => ⟨v', he, by rw [← ht]; exact hi, h.on hb, grown_of_below hb _⟩
end
end Go.Proofs.Ytjgbflclhkeibaa
namespace Go.Proofs.Ytjgbflclhkeibaa
open Go.Shelf Go.RowKit Go.Lib Go.Sort
set_option linter.unusedVariables false
def polA : Pol := ⟨0, 9, 10, 0, 2, 1, 3⟩
def cfgA : ACfg := ⟨3, 1, 1, 0⟩
theorem planA1 : planI cfgA Trk.none (knownE polA 50 0) [3] 0 2 5 = ((4, 0), ⟨[4], false, 0⟩) := by
  rw [planI_known cfgA (by decide) Trk.none polA (by decide) 50 0 2 5 [3] (by decide) (by decide) (by decide) (by decide), if_pos (show own (rk [3] 0 cfgA.salt) = (cfgA.self, 0) from own_one 3 0 _ (by decide) (by decide)), stepI_straight polA (by decide) rfl 50 2 (by decide) (by decide) (by decide) (by decide)]
  rfl
theorem planA2 : planI cfgA ⟨[4], true, 7⟩ (knownE polA 50 0) [3] 0 4 9 = ((0, 14), ⟨[4], true, 7⟩) := by
  rw [planI_known cfgA (by decide) _ polA (by decide) 50 0 4 9 [3] (by decide) (by decide) (by decide) (by decide), if_pos (show own (rk [3] 0 cfgA.salt) = (cfgA.self, 0) from own_one 3 0 _ (by decide) (by decide)), if_pos (by decide)]
theorem planA3 : planI cfgA ⟨[4], true, 7⟩ (knownE polA 50 0) [3] 0 4 10 = ((5, 0), ⟨[5], true, 7⟩) := by
  rw [planI_known cfgA (by decide) _ polA (by decide) 50 0 4 10 [3] (by decide) (by decide) (by decide) (by decide), if_pos (show own (rk [3] 0 cfgA.salt) = (cfgA.self, 0) from own_one 3 0 _ (by decide) (by decide)), stepI_straight polA (by decide) rfl 50 4 (by decide) (by decide) (by decide) (by decide)]
  rfl
theorem planA4 (t : Trk) : planI cfgA t (knownE polA 50 0) [2] 0 4 10 = ((0, 12), t) := by
  rw [planI_known cfgA (by decide) _ polA (by decide) 50 0 4 10 [2] (by decide) (by decide) (by decide) (by decide), if_neg (show ¬ own (rk [2] 0 cfgA.salt) = (cfgA.self, 0) by rw [own_one 2 0 cfgA.salt (by decide) (by decide)]; decide)]
set_option maxRecDepth 100000 in
set_option maxHeartbeats 8000000 in
theorem alive24_any (w : World) : Calls Try.prog 6 #[] w fun e w' => e = .returned (.bool true) ∧ Below w.heap.size w w' := by
  have hn := actNew_right cfgA (by decide) w
  have HN := Lib.hid hn
  have hs : 0 ≤ cfgA.salt ∧ cfgA.salt < 18446744073709551616 := by decide
  have HS := Lib.hid hs
  have hc : cfgA.right := by decide
  have HC := Lib.hid hc
  clear hn hs hc
  go_enter Try.func6, Try.ntmps6
  go_wp2_with fail
  refine HN.out.mono ?_
  rintro e w1 ⟨ab, rfl, hab, ha1, hb1⟩
  have hz1 := hb1.size
  have HA1 := Lib.hid ha1
  have HB1 := Lib.hid hb1
  clear ha1 hb1 HN
  go_wp2_with fail
  refine (known_any polA 50 w1).mono ?_
  rintro e w2 ⟨eb, rfl, heb, he2, hb2⟩
  have hst : ActSt ab eb cfgA polA 50 0 w w2 Trk.none := ⟨HB1.out.trans (hb2.mono hz1), hab, by have := HA1.out.lt; omega, he2, _, _, HA1.out.below hb2, rfl⟩
  have H2 := Lib.hid hst
  clear hst he2 hb2 HA1 HB1 heb
  go_wp2_with fail
  have h3 := H2.out.plan (by decide) HC.out HS.out 3 2 5
  rw [show ((0 : Nat) : Int) = 0 from rfl, planA1] at h3
  refine h3.mono ?_
  clear h3
  rintro e w3 ⟨rfl, hst, _⟩
  have H3 := Lib.hid hst
  clear hst H2
  go_wp2_with fail
  refine (H3.out.done (by decide) 7).mono ?_
  rintro e w4 ⟨rfl, hst, _⟩
  have H4 := Lib.hid (show ActSt ab eb cfgA polA 50 0 w w4 ⟨[4], true, 7⟩ from hst)
  clear hst H3
  go_wp2_with fail
  have h5 := H4.out.plan (by decide) HC.out HS.out 3 4 9
  rw [show ((0 : Nat) : Int) = 0 from rfl, planA2] at h5
  refine h5.mono ?_
  clear h5
  rintro e w5 ⟨rfl, hst, _⟩
  have H5 := Lib.hid hst
  clear hst H4
  go_wp2_with fail
  have h6 := H5.out.plan (by decide) HC.out HS.out 3 4 10
  rw [show ((0 : Nat) : Int) = 0 from rfl, planA3] at h6
  refine h6.mono ?_
  clear h6
  rintro e w6 ⟨rfl, hst, _⟩
  have H6 := Lib.hid hst
  clear hst H5
  go_wp2_with fail
  have h7 := H6.out.plan (by decide) HC.out HS.out 2 4 10
  rw [show ((0 : Nat) : Int) = 0 from rfl, planA4] at h7
  refine h7.mono ?_
  clear h7
  rintro e w7 ⟨rfl, hst, _⟩
  have H7 := Lib.hid hst
  clear hst H6
  go_wp2_with fail
  refine (done_nil 0 0 w7).mono ?_
  rintro e w8 ⟨rfl, rfl⟩
  go_wp2_with fail
  go_ret
  exact ⟨rfl, H7.out.below⟩
end Go.Proofs.Ytjgbflclhkeibaa
