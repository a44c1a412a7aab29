/-
  Plan: what is asked one behind the other, and what comes out; what is given up is caught.
-/
import Derived.Test.YtjgbflclhkeibaaGreatActK
import Derived.Test.YtjgbflclhkeibaaGreatActD
import Derived.Defers
import Derived.Deep.RegionHeld3
import Derived.Laws.EntriesVeiled
namespace Go.Proofs.YtjgbflclhkeibaaGreat
open Go.Shelf Go.RowKit Go.Lib Go.Sort
set_option linter.unusedVariables false
theorem below_grown {B : Nat} {w w1 w2 : World} {q : Nat} (h : Below B w w1) (hg : w1.grownBy w2 (some q)) (hq : B ≤ q) (hs : B ≤ w1.heap.size) : Below B w w2 :=
  h.trans ⟨hg.os, hg.tape, hg.output, hg.size, fun k hk => hg.block k (by omega) (fun e => by have := Option.some.inj e; omega)⟩
/-- an address's cell and what lies behind it -/
structure ResAt (rb : Nat) (W : World) (n : Int) : Prop where
  cell : W.cell? ⟨rb, 0, none⟩ = some (.int .i64 n)
  soft : W.frozen? ⟨rb, 0, none⟩ = false
  lt : rb < W.heap.size
theorem ResAt.below {rb : Nat} {W W' : World} {n : Int} (h : ResAt rb W n) (hb : Below W.heap.size W W') : ResAt rb W' n :=
  ⟨(hb.cell (p := ⟨rb, 0, none⟩) h.lt).trans h.cell, (hb.frozen (p := ⟨rb, 0, none⟩) h.lt).trans h.soft, Nat.lt_of_lt_of_le h.lt hb.size⟩
theorem ResAt.kept {rb q : Nat} {W W' : World} {n : Int} (h : ResAt rb W n) (hg : W.grownBy W' (some q)) (hq : rb ≠ q) : ResAt rb W' n :=
  ⟨hg.cell h.cell (fun e => hq (Option.some.inj e)), by simpa [World.frozen?, hg.block rb h.lt (fun e => hq (Option.some.inj e))] using h.soft, Nat.lt_of_lt_of_le h.lt hg.size⟩
theorem two_start (w : World) (o1 o2 : Obj) : ((w.alloc o1).alloc o2).heap[w.heap.size + 1]? = some o2 := by
  have := heap_alloc_new (w.alloc o1) o2
  simp only [World.alloc, Array.size_push] at this ⊢
  exact this
theorem res_start (w : World) (n : Int) (t : TypeId) (o2 : Obj) : ResAt w.heap.size ((w.alloc (.cells #[.int .i64 n] t)).alloc o2) n := by
  have h : ((w.alloc (.cells #[.int .i64 n] t)).alloc o2).heap[w.heap.size]? = some (.cells #[.int .i64 n] t) := by
    have h1 := heap_alloc_new w (.cells #[.int .i64 n] t)
    exact (((Below.refl (w.alloc (.cells #[.int .i64 n] t)).heap.size _).alloc (Nat.le_refl _) o2).block w.heap.size (by simp)).trans h1
  exact ⟨cell_of_row _ _ 0 _ _ _ h, by simp [World.frozen?, h], (Array.getElem?_eq_some_iff.1 h).1⟩
theorem grown_new {w W : World} {row : Option Nat} (h : w.grownBy W row) (o : Obj) : w.grownBy (W.alloc o) row := h.trans (World.grownBy_alloc _ _ _)
theorem grown_set_new {w W : World} {row : Option Nat} (h : w.grownBy W row) {q : Nat} (hq : w.heap.size ≤ q) (o : Nat) (v : Value) : w.grownBy (W.setCell ⟨q, o, none⟩ v) row :=
  ⟨h.os, h.tape, h.output, by simpa using h.size, fun k hk hne => (Below.heap_setCell _ _ _ k fun e => by simp at e; omega).trans (h.block k hk hne)⟩
set_option maxRecDepth 100000 in
theorem index4f0 (f0 f1 f2 f3 : Fn) (x : Value) (W : World) : Sem.run Tryz.prog (Instr.index 81 (.agg #[.func f0 #[x] #[], .func f1 #[x] #[], .func f2 #[x] #[], .func f3 #[x] #[]]) (.int .i64 0)) W = .ok (.func f0 #[x] #[]) W := by
  first | kernel_rfl | simp [Instr.index, go_sem, Tryz.underlying81, sizeOf, typeInfo, Value.cells]
set_option maxRecDepth 100000 in
theorem index4f1 (f0 f1 f2 f3 : Fn) (x : Value) (W : World) : Sem.run Tryz.prog (Instr.index 81 (.agg #[.func f0 #[x] #[], .func f1 #[x] #[], .func f2 #[x] #[], .func f3 #[x] #[]]) (.int .i64 1)) W = .ok (.func f1 #[x] #[]) W := by
  first | kernel_rfl | simp [Instr.index, go_sem, Tryz.underlying81, sizeOf, typeInfo, Value.cells]
set_option maxRecDepth 100000 in
theorem index4f2 (f0 f1 f2 f3 : Fn) (x : Value) (W : World) : Sem.run Tryz.prog (Instr.index 81 (.agg #[.func f0 #[x] #[], .func f1 #[x] #[], .func f2 #[x] #[], .func f3 #[x] #[]]) (.int .i64 2)) W = .ok (.func f2 #[x] #[]) W := by
  first | kernel_rfl | simp [Instr.index, go_sem, Tryz.underlying81, sizeOf, typeInfo, Value.cells]
set_option maxRecDepth 100000 in
theorem index4f3 (f0 f1 f2 f3 : Fn) (x : Value) (W : World) : Sem.run Tryz.prog (Instr.index 81 (.agg #[.func f0 #[x] #[], .func f1 #[x] #[], .func f2 #[x] #[], .func f3 #[x] #[]]) (.int .i64 3)) W = .ok (.func f3 #[x] #[]) W := by
  first | kernel_rfl | simp [Instr.index, go_sem, Tryz.underlying81, sizeOf, typeInfo, Value.cells]
/-- what is planned, by what is known -/
theorem planI_asks (c : ACfg) (t : Trk) (evs : List Ev) (live : List Int) (work now tick : Int) :
    (¬ (0 ≤ now ∧ now ≤ 1000) → planI c t evs live work now tick = ((0, 2), t)) ∧
    (0 ≤ now ∧ now ≤ 1000 → ¬ own (rk live work c.salt) = (c.self, 0) → planI c t evs live work now tick = ((0, 12), t)) ∧
    (0 ≤ now ∧ now ≤ 1000 → own (rk live work c.salt) = (c.self, 0) → knowsE c evs work (setsOf evs work) = none → planI c t evs live work now tick = ((0, 8), t)) ∧
    (∀ p load, 0 ≤ now ∧ now ≤ 1000 → own (rk live work c.salt) = (c.self, 0) → knowsE c evs work (setsOf evs work) = some (p, load) → tooEarly t p tick → planI c t evs live work now tick = ((0, 14), t)) ∧
    (∀ p load, 0 ≤ now ∧ now ≤ 1000 → own (rk live work c.salt) = (c.self, 0) → knowsE c evs work (setsOf evs work) = some (p, load) → ¬ tooEarly t p tick →
      p.right ∧ planI c t evs live work now tick = ((if stableI t.wished (stepI p load now) now = now then (0, 15) else (stableI t.wished (stepI p load now) now, 0)), ⟨lastN c.keep.toNat (t.wished ++ [stepI p load now]), t.written, t.at'⟩)) := by
  have hk : ∀ s, knowsE c evs work s = none → knowI c t evs work now tick s = ((0, 8), t) := by
    intro s h
    cases s with
    | nil => rfl
    | cons e s =>
      simp only [knowsE] at h
      simp only [knowI]
      split at h
      · cases h
      · rename_i hh
        rw [if_neg hh]
  have hs : ∀ s p load, knowsE c evs work s = some (p, load) → p.right ∧ knowI c t evs work now tick s = if tooEarly t p tick then ((0, 14), t) else decideI c t p evs work now := by
    intro s p load h
    cases s with
    | nil => cases h
    | cons e s =>
      simp only [knowsE] at h
      simp only [knowI]
      split at h
      · rename_i hh
        rw [if_pos hh]
        simp only [Option.some.injEq, Prod.mk.injEq] at h
        obtain ⟨rfl, rfl⟩ := h
        exact ⟨hh.1, rfl⟩
      · cases h
  have hl : ∀ s p load, knowsE c evs work s = some (p, load) → load = (loadN evs work c.window 8).1 := by
    intro s p load h
    cases s with
    | nil => cases h
    | cons e s =>
      simp only [knowsE] at h
      split at h
      · simp only [Option.some.injEq, Prod.mk.injEq] at h
        exact h.2.symm
      · cases h
  refine ⟨fun h => ?_, fun h h1 => ?_, fun h h1 h2 => ?_, fun p load h h1 h2 h3 => ?_, fun p load h h1 h2 h3 => ?_⟩
  · unfold planI; rw [if_neg h]
  · unfold planI; rw [if_pos h, if_neg h1]
  · unfold planI; rw [if_pos h, if_pos h1, hk _ h2]
  · unfold planI; rw [if_pos h, if_pos h1, (hs _ p load h2).2, if_pos h3]
  · refine ⟨(hs _ p load h2).1, ?_⟩
    unfold planI; rw [if_pos h, if_pos h1, (hs _ p load h2).2, if_neg h3]
    unfold decideI wishI
    rw [← hl _ p load h2]
    split <;> rfl
section
variable (ab : Nat) (c : ACfg) (vs : Nat → Value) (ts : Nat → Trk) (oa : Option Addr) (cap : Nat) (ps : List PEv) (ol : Option Addr) (capl : Nat) (nodes : List Int) (now tick : Int) (w : World)
set_option maxRecDepth 100000 in
set_option maxHeartbeats 8000000 in
theorem plan_in (n : Nat) (hn : n < 8) (hc : c.right) (hsalt : 0 ≤ c.salt ∧ c.salt < 18446744073709551616) (ha : AObj ab w c vs ts) (hE : EvsAt w (.slice oa ps.length cap) ps) (hl : ps.length ≤ 1000000) (hr : ∀ p ∈ ps, p.2.rem.length ≤ 1000000) (hN : SlAt icells w (.slice ol nodes.length capl) nodes) (hnl : nodes.length ≤ 1000000) :
    Calls Tryz.prog 11 #[.pointer (some ⟨ab, 0, none⟩), .slice oa ps.length cap, .slice ol nodes.length capl, .int .i64 (n : Int), .int .i64 now, .int .i64 tick] w fun e w' =>
      e = .returned (.tuple #[.int .i64 (planI c (ts n) (ps.map (·.2)) nodes n now tick).1.1, .int .i64 (planI c (ts n) (ps.map (·.2)) nodes n now tick).1.2]) ∧
      (∃ v', AObj ab w' c (upd vs n v') (upd ts n (planI c (ts n) (ps.map (·.2)) nodes n now tick).2) ∧ ((v' = vs n ∧ (planI c (ts n) (ps.map (·.2)) nodes n now tick).2 = ts n) ∨ ∀ k, v'.ownBlock = some k → w.heap.size ≤ k)) ∧ w.grownBy w' (some ab) := by
  have hmf : ∀ (fn : Fn) (first cap : Array Value) (w : World), (Instr.makeFunc fn first cap).run Tryz.prog w = .ok (.func fn first cap) w := fun _ _ _ _ => rfl
  have ix0 := fun f0 f1 f2 f3 x W => index4f0 f0 f1 f2 f3 x W
  have ix1 := fun f0 f1 f2 f3 x W => index4f1 f0 f1 f2 f3 x W
  have ix2 := fun f0 f1 f2 f3 x W => index4f2 f0 f1 f2 f3 x W
  have ix3 := fun f0 f1 f2 f3 x W => index4f3 f0 f1 f2 f3 x W
  have ht := fun W => track_in ab n hn W
  have HT := Lib.hid ht
  have HA := Lib.hid ha
  have hasks := planI_asks c (ts n) (ps.map (·.2)) nodes n now tick
  generalize planI c (ts n) (ps.map (·.2)) nodes n now tick = r at *
  obtain ⟨⟨r1, r2⟩, rt⟩ := r
  have HASK := Lib.hid hasks
  have k0 : w.cell? ⟨ab, 0, none⟩ = some (.int .i64 c.self) := ha.cell 0
  have k1 : w.cell? ⟨ab, 1, none⟩ = some (.int .i64 c.window) := ha.cell 1
  have k2 : w.cell? ⟨ab, 2, none⟩ = some (.int .i64 c.keep) := ha.cell 2
  have k3 : w.cell? ⟨ab, 3, none⟩ = some (.int .u64 c.salt) := ha.cell 3
  have hablt := ha.lt
  have HE := Lib.hid hE
  have HN := Lib.hid hN
  have HR := Lib.hid hr
  have HSALT := Lib.hid hsalt
  have HC := Lib.hid hc
  have eg0 : ∀ args w, (callFunc 24 args).run Tryz.prog w = .ok (.enter 24 args) w := enters_of Tryz.func24 (by kernel_rfl) rfl
  have eg1 : ∀ args w, (callFunc 25 args).run Tryz.prog w = .ok (.enter 25 args) w := enters_of Tryz.func25 (by kernel_rfl) rfl
  have eg2 : ∀ args w, (callFunc 26 args).run Tryz.prog w = .ok (.enter 26 args) w := enters_of Tryz.func26 (by kernel_rfl) rfl
  have eg3 : ∀ args w, (callFunc 27 args).run Tryz.prog w = .ok (.enter 27 args) w := enters_of Tryz.func27 (by kernel_rfl) rfl
  clear ht ha hE hN hr hasks hsalt hc
  go_enter_defers Tryz.func11, Tryz.ntmps11
  go_wp2_with fail
  refine (HT.out _).mono ?_
  rintro e w1 ⟨rfl, rfl⟩
  go_wp2_with fail
  go_loopg [49] 4 (fun gk s49 wr => ∃ (i : Nat) (p : Pol) (load : Int), s49 = .int .i64 i ∧ i ≤ 4 ∧ 4 - i ≤ gk ∧ Hid (QAt wr (w.heap.size + 1) c (.pointer (some ⟨ab, 4 + n * 3, none⟩)) (.slice oa ps.length cap) (.slice ol nodes.length capl) n now tick p load) ∧ Hid (ResAt w.heap.size wr 0) ∧ Hid (Below w.heap.size w wr) ∧
    Hid (1 ≤ i → 0 ≤ now ∧ now ≤ 1000) ∧ Hid (2 ≤ i → own (rk nodes n c.salt) = (c.self, 0)) ∧ Hid (3 ≤ i → knowsE c (ps.map (·.2)) n (setsOf (ps.map (·.2)) n) = some (p, load)) ∧ Hid (4 ≤ i → ¬ tooEarly (ts n) p tick))
  case atStart => exact ⟨0, ⟨0, 0, 0, 0, 0, 0, 0⟩, 0, rfl, by omega, Nat.le_refl _, two_start _ _ _, res_start _ _ _ _, ((Below.refl _ _).alloc (Nat.le_refl _) _).alloc (by simp) _, fun h => by omega, fun h => by omega, fun h => by omega, fun h => by omega⟩
  case round =>
    obtain ⟨i, p, load, rfl, hi, hg, HQ, HRS, HB, H1, H2, H3, H4⟩ := hrel
    clear k0 k1 k2 k3
    have hend : ∀ (W : World) (k : Int), Below w.heap.size w W → ResAt w.heap.size W 0 → ((r1, r2), rt) = (((0 : Int), k), ts n) → r1 = 0 ∧ r2 = k ∧ (∃ v', AObj ab ((W.alloc (.cells #[.int .i64 k] 95)).setCell ⟨w.heap.size, 0, none⟩ (.int .i64 k)) c (upd vs n v') (upd ts n rt) ∧ ((v' = vs n ∧ rt = ts n) ∨ ∀ k, v'.ownBlock = some k → w.heap.size ≤ k)) ∧ w.grownBy ((W.alloc (.cells #[.int .i64 k] 95)).setCell ⟨w.heap.size, 0, none⟩ (.int .i64 k)) (some ab) ∧ ((W.alloc (.cells #[.int .i64 k] 95)).setCell ⟨w.heap.size, 0, none⟩ (.int .i64 k)).cell? ⟨w.heap.size, 0, none⟩ = some (.int .i64 k) := by
      intro W k hW hR he
      simp only [Prod.mk.injEq] at he
      obtain ⟨⟨rfl, rfl⟩, rfl⟩ := he
      have hB2 : Below w.heap.size w ((W.alloc (.cells #[.int .i64 r2] 95)).setCell ⟨w.heap.size, 0, none⟩ (.int .i64 r2)) := (hW.alloc hW.size _).setCell (Nat.le_refl _) _
      exact ⟨rfl, rfl, ⟨vs n, by rw [upd_id, upd_id]; exact HA.out.below hB2, .inl ⟨rfl, rfl⟩⟩, grown_of_below hB2 _, World.cell?_setCell_same _ _ _ (hR.below ((Below.refl _ _).alloc (Nat.le_refl _) _)).cell⟩
    have HEND := Lib.hid hend
    clear hend
    have hi5 : i = 0 ∨ i = 1 ∨ i = 2 ∨ i = 3 ∨ i = 4 := by omega
    rcases hi5 with rfl | rfl | rfl | rfl | rfl
    · have hm := may_any (w.heap.size + 1) c _ _ _ _ now tick p load wr HQ.out
      obtain ⟨ok, hok⟩ : ∃ ok, inB now 0 1000 = ok := ⟨_, rfl⟩
      rw [hok] at hm
      have HM := Lib.hid hm
      have HOK := Lib.hid hok
      clear hm hok
      cases ok with
      | true =>
        go_wp2_with (go_at_fn 24; refine HM.out.mono ?_; rintro e w1 ⟨rfl, rfl⟩; simp only [askE, if_true])
        go_roundg (4 - 1)
        case measure => omega
        case rel => exact ⟨1, p, load, by go_num, by omega, Nat.le_refl _, HQ, HRS, HB, fun _ => inB_true HOK.out, fun h => by omega, fun h => by omega, fun h => by omega⟩
      | false =>
        go_wp2_with (go_at_fn 24; refine HM.out.mono ?_; rintro e w1 ⟨rfl, rfl⟩; simp only [askE, Bool.false_eq_true, if_false])
        refine leaves_cons (f := 23) (args := #[.pointer (some ⟨w.heap.size, 0, none⟩)]) (by simp) (by simp [go_sem]) ?_
        refine (caught_fault w.heap.size 0 2 [] wr HRS.out.lt HRS.out.cell HRS.out.soft).mono ?_
        rintro e u' w' ⟨rfl, rfl, rfl⟩
        clear eg0 eg1 eg2 eg3 ix0 ix1 ix2 ix3 hmf
        obtain ⟨rfl, rfl, e3, e4, e5⟩ := HEND.out wr 2 HB.out HRS.out (HASK.out.1 fun h => by have := inB_yes h; rw [HOK.out] at this; exact nomatch this)
        clear HEND
        generalize (wr.alloc (.cells #[.int .i64 2] 95)).setCell ⟨w.heap.size, 0, none⟩ (.int .i64 2) = W9 at *
        simp [Leaves, settle, results, Tryz.results11, go_sem, e5]
        exact ⟨e3, e4⟩
    · have hm := owns_any (w.heap.size + 1) c (.pointer (some ⟨ab, 4 + n * 3, none⟩)) (.slice oa ps.length cap) (.slice ol nodes.length capl) n now tick p load wr ol capl nodes HSALT.out rfl HQ.out (HN.out.below icells_len (by decide) HB.out (Nat.le_refl _)) hnl
      obtain ⟨ok, hok⟩ : ∃ ok, decide (own (rk nodes n c.salt) = (c.self, 0)) = ok := ⟨_, rfl⟩
      rw [hok] at hm
      have HM := Lib.hid hm
      have HOK := Lib.hid hok
      clear hm hok
      cases ok with
      | true =>
        go_wp2_with (go_at_fn 25; refine HM.out.mono ?_; rintro e w1 ⟨rfl, hb1⟩; have HB1 := Lib.hid hb1; clear hb1; simp only [askE, if_true])
        go_roundg (4 - 2)
        case measure => omega
        case rel => exact ⟨2, p, load, by go_num, by omega, Nat.le_refl _, HQ.out.below HB1.out, HRS.out.below HB1.out, HB.out.trans (HB1.out.mono HB.out.size), fun _ => H1.out (by omega), fun _ => of_decide_eq_true HOK.out, fun h => by omega, fun h => by omega⟩
      | false =>
        go_wp2_with (go_at_fn 25; refine HM.out.mono ?_; rintro e w1 ⟨rfl, hb1⟩; have HB1 := Lib.hid hb1; clear hb1; simp only [askE, Bool.false_eq_true, if_false])
        have HRS2 := Lib.hid (HRS.out.below HB1.out)
        have HB2 := Lib.hid (HB.out.trans (HB1.out.mono HB.out.size))
        refine leaves_cons (f := 23) (args := #[.pointer (some ⟨w.heap.size, 0, none⟩)]) (by simp) (by simp [go_sem]) ?_
        refine (caught_fault w.heap.size 0 12 [] w1 HRS2.out.lt HRS2.out.cell HRS2.out.soft).mono ?_
        rintro e u' w' ⟨rfl, rfl, rfl⟩
        clear eg0 eg1 eg2 eg3 ix0 ix1 ix2 ix3 hmf
        obtain ⟨rfl, rfl, e3, e4, e5⟩ := HEND.out w1 12 HB2.out HRS2.out (HASK.out.2.1 (H1.out (by omega)) (of_decide_eq_false HOK.out))
        clear HEND
        generalize (w1.alloc (.cells #[.int .i64 12] 95)).setCell ⟨w.heap.size, 0, none⟩ (.int .i64 12) = W9 at *
        simp [Leaves, settle, results, Tryz.results11, go_sem, e5]
        exact ⟨e3, e4⟩
    · have hm := knows_any (w.heap.size + 1) c (.pointer (some ⟨ab, 4 + n * 3, none⟩)) (.slice oa ps.length cap) (.slice ol nodes.length capl) n now tick p load wr oa cap ps (by have := HC.out; unfold ACfg.right at this; omega) (by have := HC.out; unfold ACfg.right at this; omega) rfl HQ.out (HE.out.below HB.out (Nat.le_refl _)) hl HR.out
      unfold KnowsPost at hm
      obtain ⟨ke, hke⟩ : ∃ ke, knowsE c (ps.map (·.2)) n (setsOf (ps.map (·.2)) n) = ke := ⟨_, rfl⟩
      rw [hke] at hm
      have HKE := Lib.hid hke
      have hrq : w.heap.size ≠ w.heap.size + 1 := by omega
      cases ke with
      | some x =>
        obtain ⟨p2, load2⟩ := x
        simp only [Option.isSome_some] at hm
        have HM := Lib.hid hm
        clear hm hke
        go_wp2_with (go_at_fn 26; refine HM.out.mono ?_; rintro e w1 ⟨rfl, hg1, hq1⟩; have HG1 := Lib.hid hg1; have HQ1 := Lib.hid (hq1 p2 load2 rfl); clear hg1 hq1; simp only [askE, if_true])
        go_roundg (4 - 3)
        case measure => omega
        case rel => exact ⟨3, p2, load2, by go_num, by omega, Nat.le_refl _, HQ1, HRS.out.kept HG1.out (by omega), below_grown HB.out HG1.out (by omega) HB.out.size, fun _ => H1.out (by omega), fun _ => H2.out (by omega), fun _ => HKE.out, fun h => by omega⟩
      | none =>
        simp only [Option.isSome_none] at hm
        have HM := Lib.hid hm
        clear hm hke
        go_wp2_with (go_at_fn 26; refine HM.out.mono ?_; rintro e w1 ⟨rfl, hg1, hq1⟩; have HG1 := Lib.hid hg1; clear hg1 hq1; simp only [askE, Bool.false_eq_true, if_false])
        have HRS2 := Lib.hid (HRS.out.kept HG1.out (by omega))
        have HB2 := Lib.hid (below_grown HB.out HG1.out (by omega) HB.out.size)
        clear eg0 eg1 eg2 eg3 ix0 ix1 ix2 ix3 hmf
        refine leaves_cons (f := 23) (args := #[.pointer (some ⟨w.heap.size, 0, none⟩)]) (by simp) (by simp [go_sem]) ?_
        refine (caught_fault w.heap.size 0 8 [] w1 HRS2.out.lt HRS2.out.cell HRS2.out.soft).mono ?_
        rintro e u' w' ⟨rfl, rfl, rfl⟩
        obtain ⟨rfl, rfl, e3, e4, e5⟩ := HEND.out w1 8 HB2.out HRS2.out (HASK.out.2.2.1 (H1.out (by omega)) (H2.out (by omega)) HKE.out)
        clear HEND
        generalize (w1.alloc (.cells #[.int .i64 8] 95)).setCell ⟨w.heap.size, 0, none⟩ (.int .i64 8) = W9 at *
        simp [Leaves, settle, results, Tryz.results11, go_sem, e5]
        exact ⟨e3, e4⟩
    · have hm := cooled_any (w.heap.size + 1) c (.pointer (some ⟨ab, 4 + n * 3, none⟩)) (.slice oa ps.length cap) (.slice ol nodes.length capl) n now tick p load wr n ab vs ts hn rfl HQ.out (HA.out.below HB.out)
      obtain ⟨ok, hok⟩ : ∃ ok, (!decide (tooEarly (ts n) p tick)) = ok := ⟨_, rfl⟩
      rw [hok] at hm
      have HM := Lib.hid hm
      have HOK := Lib.hid hok
      clear hm hok
      cases ok with
      | true =>
        go_wp2_with (go_at_fn 27; refine HM.out.mono ?_; rintro e w1 ⟨rfl, hb1⟩; have HB1 := Lib.hid hb1; clear hb1; simp only [askE, if_true])
        go_roundg (4 - 4)
        case measure => omega
        case rel => exact ⟨4, p, load, by go_num, by omega, Nat.le_refl _, HQ.out.below HB1.out, HRS.out.below HB1.out, HB.out.trans (HB1.out.mono HB.out.size), fun _ => H1.out (by omega), fun _ => H2.out (by omega), fun _ => H3.out (by omega), fun _ => by simpa using HOK.out⟩
      | false =>
        go_wp2_with (go_at_fn 27; refine HM.out.mono ?_; rintro e w1 ⟨rfl, hb1⟩; have HB1 := Lib.hid hb1; clear hb1; simp only [askE, Bool.false_eq_true, if_false])
        have HRS2 := Lib.hid (HRS.out.below HB1.out)
        have HB2 := Lib.hid (HB.out.trans (HB1.out.mono HB.out.size))
        clear eg0 eg1 eg2 eg3 ix0 ix1 ix2 ix3 hmf
        refine leaves_cons (f := 23) (args := #[.pointer (some ⟨w.heap.size, 0, none⟩)]) (by simp) (by simp [go_sem]) ?_
        refine (caught_fault w.heap.size 0 14 [] w1 HRS2.out.lt HRS2.out.cell HRS2.out.soft).mono ?_
        rintro e u' w' ⟨rfl, rfl, rfl⟩
        obtain ⟨rfl, rfl, e3, e4, e5⟩ := HEND.out w1 14 HB2.out HRS2.out (HASK.out.2.2.2.1 p load (H1.out (by omega)) (H2.out (by omega)) (H3.out (by omega)) (by simpa using HOK.out))
        clear HEND
        generalize (w1.alloc (.cells #[.int .i64 14] 95)).setCell ⟨w.heap.size, 0, none⟩ (.int .i64 14) = W9 at *
        simp [Leaves, settle, results, Tryz.results11, go_sem, e5]
        exact ⟨e3, e4⟩
    · obtain ⟨hpr, hpl⟩ := HASK.out.2.2.2.2 p load (H1.out (by omega)) (H2.out (by omega)) (H3.out (by omega)) (H4.out (by omega))
      have hcc := HC.out
      unfold ACfg.right at hcc
      have hm := decided_any (w.heap.size + 1) c (.pointer (some ⟨ab, 4 + n * 3, none⟩)) (.slice oa ps.length cap) (.slice ol nodes.length capl) n now tick p load wr n ab vs ts hn rfl (by omega) hpr (H1.out (by omega)).1 (H1.out (by omega)).2 (by omega) (by omega) HQ.out (HA.out.below HB.out)
      obtain ⟨plan, hplan⟩ : ∃ x, stableI (ts n).wished (stepI p load now) now = x := ⟨_, rfl⟩
      rw [hplan] at hm hpl
      simp only [Prod.mk.injEq] at hpl
      obtain ⟨hpl, hrt⟩ := hpl
      rw [← hrt] at hm
      have HPL := Lib.hid hpl
      have HRS3 := HRS
      clear hpl hrt hcc hpr
      by_cases hpn : plan = now
      · unfold decE at hm
        rw [if_pos hpn] at hm
        have HM := Lib.hid hm
        have hpl := HPL.out
        rw [if_pos hpn, Prod.mk.injEq] at hpl
        obtain ⟨rfl, rfl⟩ := hpl
        clear hm hplan
        go_wp2_with fail
        refine HM.out.mono ?_
        rintro e w1 ⟨rfl, v', ho, hg1, hfr1⟩
        have hrow : ∀ m, m < 8 → (upd ts n rt m).wished = [] ∨ (upd vs n v' m).ownBlock ≠ some w.heap.size := by
          intro m hm
          by_cases hmn : m = n
          · subst hmn
            right
            rw [upd_same]
            exact fun e => by have := hfr1 _ e; have := HRS.out.lt; omega
          · rw [upd_other _ _ hmn, upd_other _ _ hmn]
            by_cases he : (ts m).wished = []
            · exact .inl he
            · exact .inr fun e => by have := (HA.out.row m hm).1.lt icells_len (by decide) he _ e; omega
        have HROW := Lib.hid hrow
        have hfresh : (v' = vs n ∧ rt = ts n) ∨ ∀ k, v'.ownBlock = some k → w.heap.size ≤ k := .inr fun k hk => Nat.le_trans HB.out.size (hfr1 k hk)
        have HFRESH := Lib.hid hfresh
        clear hfr1 hrow hfresh
        have HO := Lib.hid ho
        have HG1 := Lib.hid hg1
        clear ho hg1
        go_wp2_with fail
        have HRS2 := Lib.hid (HRS.out.kept HG1.out (by omega))
        have HG2 := Lib.hid ((grown_of_below HB.out (some ab)).trans HG1.out)
        clear eg0 eg1 eg2 eg3 ix0 ix1 ix2 ix3 hmf HEND
        refine leaves_cons (f := 23) (args := #[.pointer (some ⟨w.heap.size, 0, none⟩)]) (by simp) (by simp [go_sem]) ?_
        refine (caught_fault w.heap.size 0 15 [] w1 HRS2.out.lt HRS2.out.cell HRS2.out.soft).mono ?_
        rintro e u' w' ⟨rfl, rfl, rfl⟩
        have e3 : AObj ab ((w1.alloc (.cells #[.int .i64 15] 95)).setCell ⟨w.heap.size, 0, none⟩ (.int .i64 15)) c (upd vs n v') (upd ts n rt) := (HO.out.below ((Below.refl _ _).alloc (Nat.le_refl _) (.cells #[.int .i64 15] 95))).kept (grown_setC (World.grownBy.refl _ _) _) (by omega) HROW.out
        have e4 : w.grownBy ((w1.alloc (.cells #[.int .i64 15] 95)).setCell ⟨w.heap.size, 0, none⟩ (.int .i64 15)) (some ab) := grown_set_new (grown_new HG2.out _) (Nat.le_refl _) _ _
        have e5 : ((w1.alloc (.cells #[.int .i64 15] 95)).setCell ⟨w.heap.size, 0, none⟩ (.int .i64 15)).cell? ⟨w.heap.size, 0, none⟩ = some (.int .i64 15) := World.cell?_setCell_same _ _ _ (HRS2.out.below ((Below.refl _ _).alloc (Nat.le_refl _) _)).cell
        generalize (w1.alloc (.cells #[.int .i64 15] 95)).setCell ⟨w.heap.size, 0, none⟩ (.int .i64 15) = W9 at *
        simp [Leaves, settle, results, Tryz.results11, go_sem, e5]
        exact ⟨⟨v', e3, HFRESH.out⟩, e4⟩
      · unfold decE at hm
        rw [if_neg hpn] at hm
        have HM := Lib.hid hm
        have hpl := HPL.out
        rw [if_neg hpn, Prod.mk.injEq] at hpl
        obtain ⟨rfl, rfl⟩ := hpl
        clear hm hplan
        go_wp2_with fail
        refine HM.out.mono ?_
        rintro e w1 ⟨rfl, v', ho, hg1, hfr1⟩
        have hrow : ∀ m, m < 8 → (upd ts n rt m).wished = [] ∨ (upd vs n v' m).ownBlock ≠ some w.heap.size := by
          intro m hm
          by_cases hmn : m = n
          · subst hmn
            right
            rw [upd_same]
            exact fun e => by have := hfr1 _ e; have := HRS.out.lt; omega
          · rw [upd_other _ _ hmn, upd_other _ _ hmn]
            by_cases he : (ts m).wished = []
            · exact .inl he
            · exact .inr fun e => by have := (HA.out.row m hm).1.lt icells_len (by decide) he _ e; omega
        have HROW := Lib.hid hrow
        have hfresh : (v' = vs n ∧ rt = ts n) ∨ ∀ k, v'.ownBlock = some k → w.heap.size ≤ k := .inr fun k hk => Nat.le_trans HB.out.size (hfr1 k hk)
        have HFRESH := Lib.hid hfresh
        clear hfr1 hrow hfresh
        have HO := Lib.hid ho
        have HG1 := Lib.hid hg1
        clear ho hg1
        have HRS2 := Lib.hid (HRS.out.kept HG1.out (by omega))
        have HG2 := Lib.hid ((grown_of_below HB.out (some ab)).trans HG1.out)
        have c0 := HRS2.out.cell
        have z0 := HRS2.out.soft
        go_wp2_with fail
        clear eg0 eg1 eg2 eg3 ix0 ix1 ix2 ix3 hmf HEND
        refine leaves_cons (f := 23) (args := #[.pointer (some ⟨w.heap.size, 0, none⟩)]) (by simp) (by simp [go_sem]) ?_
        refine (caught_idle ⟨w.heap.size, 0, none⟩ _).mono ?_
        rintro e u' w' ⟨rfl, rfl, rfl⟩
        have e3 : AObj ab (w1.setCell ⟨w.heap.size, 0, none⟩ (.int .i64 0)) c (upd vs n v') (upd ts n rt) := HO.out.kept (grown_setC (World.grownBy.refl _ _) _) (by omega) HROW.out
        have e4 : w.grownBy (w1.setCell ⟨w.heap.size, 0, none⟩ (.int .i64 0)) (some ab) := grown_set_new HG2.out (Nat.le_refl _) _ _
        have e5 : (w1.setCell ⟨w.heap.size, 0, none⟩ (.int .i64 0)).cell? ⟨w.heap.size, 0, none⟩ = some (.int .i64 0) := World.cell?_setCell_same _ _ _ c0
        generalize w1.setCell ⟨w.heap.size, 0, none⟩ (.int .i64 0) = W9 at *
        simp [Leaves, settle, results, Tryz.results11, go_sem, e5]
        exact ⟨⟨v', e3, HFRESH.out⟩, e4⟩
end
theorem plan_out (ab : Nat) (oa : Option Addr) (cap : Nat) (ps : List PEv) (ol : Option Addr) (capl : Nat) (nodes : List Int) (now tick : Int) (w : World) (work : Int) (hw : ¬ (0 ≤ work ∧ work ≤ 7)) :
    Calls Tryz.prog 11 #[.pointer (some ⟨ab, 0, none⟩), .slice oa ps.length cap, .slice ol nodes.length capl, .int .i64 work, .int .i64 now, .int .i64 tick] w fun e w' => e = .returned (.tuple #[.int .i64 0, .int .i64 2]) ∧ Below w.heap.size w w' := by
  have ht := fun W => track_out ab work hw W
  have HT := Lib.hid ht
  clear ht
  go_enter_defers Tryz.func11, Tryz.ntmps11
  go_wp2_with fail
  refine (HT.out _).mono ?_
  rintro e w1 ⟨rfl, rfl⟩
  go_wp2_with fail
  have hb : Below w.heap.size w (w.alloc (.cells #[.int .i64 2] 29)) := (Below.refl _ _).alloc (Nat.le_refl _) _
  have e5 : (w.alloc (.cells #[.int .i64 2] 29)).cell? ⟨w.heap.size, 0, none⟩ = some (.int .i64 2) := cell_of_row _ _ 0 _ _ _ (heap_alloc_new w _)
  generalize w.alloc (.cells #[.int .i64 2] 29) = W9 at *
  simp [bodyPostD, Leaves, results, Tryz.results11, go_sem, e5]
  exact hb
end Go.Proofs.YtjgbflclhkeibaaGreat
