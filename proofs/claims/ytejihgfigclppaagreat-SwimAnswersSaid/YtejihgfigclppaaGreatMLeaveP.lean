/-
  Two detectors of which one leaves, plainly. No program in sight.
  Two rows of numbers that differ at once; two detectors side by side; a message sent, loaded whole.
-/
import Derived.Test.YtejihgfigclppaaGreatMFindsR
import Derived.Test.YtejihgfigclppaaGreatMLaw20b
namespace Go.Proofs.YtejihgfigclppaaGreat
open Go.RowKit Go.Lib
set_option linter.unusedVariables false
def goneMs (n : Nat) : List Mb := ⟨0, 4, 0⟩ :: wordsN n
structure ExL (c : DConf) (n : Nat) (d0 d1 d2 x0 x1 x2 : Det) (out : List Sent) : Prop where
  s0 : Det.new 0 0 c 1 = d0
  t0 : Det.new 1 0 c 2 = x0
  s1 : (d0.on ⟨1, 1, 0, 0, 0, wordsN n⟩).1 = d1
  t1 : (x0.on ⟨1, 0, 1, 0, 0, [⟨0, 1, 0⟩]⟩).1 = x1
  s2 : d1.leave = (d2, out)
  s3 : d2.tick = (d2, [])
  t2 : (x1.on ⟨1, 0, 1, 0, 0, goneMs n⟩).1 = x2
  out : out = (List.range n).map fun i : Nat => (⟨1, 0, (i : Int) + 1, 0, 0, goneMs n⟩ : Sent)
  live : ∃ l, liveT x2.tab = 1 :: l
  kd0 : DetOk d0
  kd1 : DetOk d1
  kd2 : DetOk d2
  kx0 : DetOk x0
  kx1 : DetOk x1
  nd0 : d0.num < 1000000
  nd1 : d1.num < 1000000 ∧ d1.clock < 1000000
  nd2 : d2.num < 1000000 ∧ d2.clock < 1000000
  nx0 : x0.num < 1000000
  nx1 : x1.num < 1000000
  ld0 : d0.left = false
  ld1 : d1.left = false
  ld2 : d2.left = true
  lx0 : x0.left = false
  lx1 : x1.left = false
  zd0 : d0.self = 0
  zd2 : d2.self = 0
  zx0 : x0.self = 1
  zx1 : x1.self = 1
theorem contra_none {d : Det} {w : Wd} (h : d.tab d.self.toNat = some w) (h1 : w.st = 1) (h2 : w.inc ≤ d.inc) : d.contradict = d := by
  unfold Det.contradict
  rw [h]
  exact if_pos (.inr (.inl ⟨h1, h2⟩))
theorem range_map_next (n : Nat) : (List.range (n + 1)).map (fun i : Nat => (i : Int) + 1) = (List.range n).map (fun i : Nat => (i : Int) + 1) ++ [(n : Int) + 1] := by rw [List.range_succ, List.map_append]; rfl
/-- a table in which 0 has left, and the next n live -/
structure LeftTab (n : Nat) (t : Tab) : Prop where
  own : t 0 = some ⟨4, 0⟩
  at_ : ∀ k, 1 ≤ k → k ≤ n → t k = some ⟨1, 0⟩
  out : ∀ k, n < k → t k = none
theorem LeftTab.words {n : Nat} {t : Tab} (h : LeftTab n t) : ∀ m, m ≤ n → wordsTo t (m + 1) = ⟨0, 4, 0⟩ :: wordsN m
  | 0, _ => by unfold wordsTo; rw [h.own]; rfl
  | m + 1, hm => by
    have ih := h.words m (by omega)
    show wordsTo t (m + 1) ++ (match t (m + 1) with | some w => [(⟨((m + 1 : Nat) : Int), w.st, w.inc⟩ : Mb)] | none => []) = _
    rw [ih, h.at_ (m + 1) (by omega) hm, wordsN_next]
    rfl
theorem LeftTab.all {n : Nat} (hn : n ≤ 7) {t : Tab} (h : LeftTab n t) : allT t = goneMs n := by
  unfold allT
  have := wordsTo_more t (n + 1) (7 - n) fun k h1 _ => h.out k (by omega)
  rw [show n + 1 + (7 - n) = 8 by omega] at this
  rw [this]
  exact h.words n (Nat.le_refl _)
theorem LeftTab.live {n : Nat} {t : Tab} (h : LeftTab n t) : ∀ m, m ≤ n → liveTo t (m + 1) = (List.range m).map fun i : Nat => (i : Int) + 1
  | 0, _ => by unfold liveTo; rw [h.own]; rfl
  | m + 1, hm => by
    have ih := h.live m (by omega)
    show liveTo t (m + 1) ++ (match t (m + 1) with | some w => if w.there = true then [((m + 1 : Nat) : Int)] else [] | none => []) = _
    rw [ih, h.at_ (m + 1) (by omega) hm, range_map_next]
    rfl
theorem liveTo_more (t : Tab) (m : Nat) : ∀ j, (∀ k, m ≤ k → k < m + j → t k = none) → liveTo t (m + j) = liveTo t m
  | 0, _ => rfl
  | j + 1, h => by
    show liveTo t (m + j) ++ (match t (m + j) with | some w => if w.there = true then [((m + j : Nat) : Int)] else [] | none => []) = _
    rw [h (m + j) (by omega) (by omega), liveTo_more t m j fun k h1 h2 => h k h1 (by omega)]
    exact List.append_nil _
theorem LeftTab.others {n : Nat} (hn : n ≤ 7) {t : Tab} (h : LeftTab n t) : othersT 0 t = (List.range n).map fun i : Nat => (i : Int) + 1 := by
  unfold othersT liveT
  have := liveTo_more t (n + 1) (7 - n) fun k h1 _ => h.out k (by omega)
  rw [show n + 1 + (7 - n) = 8 by omega] at this
  rw [this, h.live n (Nat.le_refl _)]
  refine List.filter_eq_self.2 fun x hx => ?_
  obtain ⟨i, _, rfl⟩ := List.mem_map.1 hx
  have : ¬ (i : Int) + 1 = 0 := by omega
  simp [this]
theorem leave_start {n : Nat} (hn : n ≤ 7) {c : DConf} {d : Det} (h : Start n c d) : ∃ e : Det, d.leave = (e, (List.range n).map fun i : Nat => (⟨1, 0, (i : Int) + 1, 0, 0, goneMs n⟩ : Sent)) := by
  have h0 := (h.alive 0 (Nat.zero_le _)).1
  have hm : Mb.may ⟨d.self, 4, d.inc⟩ := by rw [h.self, h.inc]; decide
  have hself : d.self.toNat = 0 := by rw [h.self]; rfl
  have hnw : newsT d.tab ⟨d.self, 4, d.inc⟩ = true := by
    unfold newsT
    simp only [hself, h0]
    exact decide_eq_true (.inr ⟨h.inc, by show (1 : Int) < 4; decide⟩)
  have e1 : Det.hear { d with left := true } ⟨d.self, 4, d.inc⟩ = { d with left := true, tab := updT d.tab 0 ⟨4, 0⟩ } := by
    unfold Det.hear
    rw [if_pos ⟨hm, hnw⟩, if_pos rfl]
    simp only [hself, h.inc]
  have hT : LeftTab n (updT d.tab 0 ⟨4, 0⟩) := ⟨updT_same _ _ _, fun k h1 h2 => (updT_other _ _ (by omega)).trans (h.alive k h2).1, fun k h1 => (updT_other _ _ (by omega)).trans (h.out k h1).1⟩
  refine ⟨{ d with left := true, tab := updT d.tab 0 ⟨4, 0⟩ }, ?_⟩
  unfold Det.leave
  rw [e1]
  dsimp only
  rw [h.self, hT.others hn, List.map_map]
  refine congrArg (Prod.mk _) (List.map_congr_left fun i _ => ?_)
  simp only [Function.comp, Det.send, hT.all hn]
/-- what the other one knows: 0 has left, it lives -/
structure Other (d : Det) : Prop where
  self : d.self = 1
  inc : d.inc = 0
  t0 : d.tab 0 = some ⟨4, 0⟩
  t1 : d.tab 1 = some ⟨1, 0⟩
theorem Other.hear {d : Det} (h : Other d) (i : Nat) : Other (d.hear ⟨(i : Int) + 1, 1, 0⟩) := by
  cases i with
  | zero =>
    have : d.hear ⟨((0 : Nat) : Int) + 1, 1, 0⟩ = d := by
      unfold Det.hear
      rw [if_neg]
      rintro ⟨_, hb⟩
      unfold newsT at hb
      rw [show (((0 : Nat) : Int) + 1).toNat = 1 from rfl, h.t1] at hb
      exact absurd hb (by decide)
    rw [this]
    exact h
  | succ i =>
    have e : ((i + 1 : Nat) : Int) + 1 = ((i + 2 : Nat) : Int) := by omega
    rw [e]
    exact ⟨(hear_self _ _).trans h.self, (hear_inc _ _).trans h.inc, (hear_else d (i + 2) 0 1 0 (by omega)).1.trans h.t0, (hear_else d (i + 2) 1 1 0 (by omega)).1.trans h.t1⟩
theorem Other.hears {d : Det} (h : Other d) : ∀ n, Other (d.hears (wordsN n))
  | 0 => h
  | n + 1 => by
    rw [wordsN_next, show d.hears (wordsN n ++ [(⟨(n : Int) + 1, 1, 0⟩ : Mb)]) = (d.hears (wordsN n)).hear ⟨(n : Int) + 1, 1, 0⟩ from by unfold Det.hears; rw [List.foldl_append]; rfl]
    exact (Other.hears h n).hear n
theorem Other.live {d : Det} (h : Other d) : ∃ l, liveT d.tab = 1 :: l := by
  unfold liveT
  simp only [liveTo, h.t0, h.t1]
  exact ⟨_, rfl⟩
def xA (c : DConf) : Det := (Det.new 1 0 c 2).hear ⟨0, 1, 0⟩
theorem xA_is (c : DConf) : (xA c).self = 1 ∧ (xA c).inc = 0 ∧ (xA c).tab 0 = some ⟨1, 0⟩ ∧ (xA c).tab 1 = some ⟨1, 0⟩ := ⟨hear_self _ _, hear_inc _ _, rfl, rfl⟩
theorem xA_on (c : DConf) : ((Det.new 1 0 c 2).on ⟨1, 0, 1, 0, 0, [⟨0, 1, 0⟩]⟩).1 = xA c := by
  obtain ⟨h1, h2, h3, h4⟩ := xA_is c
  show ((xA c).contradict) = _
  exact contra_none (w := ⟨1, 0⟩) (by rw [h1]; exact h4) rfl (by rw [h2]; exact Int.le_refl 0)
theorem xA_gone (c : DConf) : Other ((xA c).hear ⟨0, 4, 0⟩) := by
  obtain ⟨h1, h2, h3, h4⟩ := xA_is c
  refine ⟨(hear_self _ _).trans h1, (hear_inc _ _).trans h2, ?_, ?_⟩
  · have hnw : newsT (xA c).tab ⟨0, 4, 0⟩ = true := by
      unfold newsT
      rw [show (0 : Int).toNat = 0 from rfl, h3]
      decide
    rw [hear_tab]
    unfold hearT
    rw [if_pos ⟨by decide, hnw⟩]
    exact updT_same _ _ _
  · exact (hear_else (xA c) 0 1 4 0 (by decide)).1.trans h4
theorem xA_last (c : DConf) (n : Nat) : Other ((xA c).on ⟨1, 0, 1, 0, 0, goneMs n⟩).1 := by
  have h : Other ((xA c).hears (goneMs n)) := (xA_gone c).hears n
  have hc : ((xA c).hears (goneMs n)).contradict = (xA c).hears (goneMs n) := contra_none (w := ⟨1, 0⟩) (by rw [h.self]; exact h.t1) rfl (by rw [h.inc]; exact Int.le_refl 0)
  have : ((xA c).on ⟨1, 0, 1, 0, 0, goneMs n⟩).1 = ((xA c).hears (goneMs n)).contradict := rfl
  rw [this, hc]
  exact h
theorem exL (c : DConf) (hc : c.right) (n : Nat) (h1n : 1 ≤ n) (hn : n ≤ 7) : ∃ d0 d1 d2 x0 x1 x2 out, ExL c n d0 d1 d2 x0 x1 x2 out := by
  have hS := start_on c 1 n hn
  have kd0 : DetOk (Det.new 0 0 c 1) := DetOk.new (by decide) hc
  have kx0 : DetOk (Det.new 1 0 c 2) := DetOk.new (by decide) hc
  have nd0 : (Det.new 0 0 c 1).num < 1000000 := by show (0 : Int) < 1000000; decide
  have nx0 : (Det.new 1 0 c 2).num < 1000000 := by show (0 : Int) < 1000000; decide
  have kd1 := kd0.on ⟨1, 1, 0, 0, 0, wordsN n⟩ nd0
  have kx1 := kx0.on ⟨1, 0, 1, 0, 0, [⟨0, 1, 0⟩]⟩ nx0
  obtain ⟨x1, x2, x3, x4, x5, x6⟩ := on_same (Det.new 1 0 c 2) ⟨1, 0, 1, 0, 0, [⟨0, 1, 0⟩]⟩
  have hxl : ∃ l, liveT ((((Det.new 1 0 c 2).on ⟨1, 0, 1, 0, 0, [⟨0, 1, 0⟩]⟩).1.on ⟨1, 0, 1, 0, 0, goneMs n⟩).1.tab) = 1 :: l := by rw [xA_on]; exact (xA_last c n).live
  generalize hd1 : ((Det.new 0 0 c 1).on ⟨1, 1, 0, 0, 0, wordsN n⟩).1 = d1 at *
  obtain ⟨e, he⟩ := leave_start hn hS
  have kd2 := kd1.leave
  obtain ⟨l1, l2, l3, l4, l5⟩ := leave_same d1
  rw [he] at kd2 l1 l2 l3 l4 l5
  dsimp only at kd2 l1 l2 l3 l4 l5
  refine ⟨_, d1, e, _, _, _, _, rfl, rfl, hd1, rfl, he, ?_, rfl, rfl, hxl, kd0, kd1, kd2, kx0, kx1, nd0, ?_, ?_, nx0, ?_, rfl, hS.left, l5, rfl, x6, rfl, l1.trans hS.self, rfl, x1⟩
  · unfold Det.tick; rw [if_pos l5]
  · rw [hS.num, hS.clock]; decide
  · rw [l4, l3, hS.num, hS.clock]; decide
  · have h0 : (Det.new 1 0 c 2).num = 0 := rfl
    omega
end Go.Proofs.YtejihgfigclppaaGreat
namespace Go.Proofs.YtejihgfigclppaaGreat
open Go.Shelf Go.RowKit Go.Lib Go.Sort
set_option linter.unusedVariables false
set_option linter.unusedSimpArgs false
set_option maxHeartbeats 4000000 in
theorem intsNe_any (oa ob : Option Addr) (ca cb : Nat) (t : List Int) (w : World) (ha : SlAt icells w (.slice oa (t.length + 1) ca) (1 :: t)) (hb : SlAt icells w (.slice ob 2 cb) [0, 1]) :
    Calls Tryz.prog 23 #[.slice oa (t.length + 1) ca, .slice ob 2 cb] w fun e w' => e = .returned (.bool false) ∧ Below w.heap.size w w' := by
  have HA := Lib.hid ha
  have HB := Lib.hid hb
  generalize htl : t.length = n at *
  clear htl ha hb
  by_cases hn : n = 1
  · subst hn
    obtain ⟨b1, off1, rfl⟩ := HA.out.plain icells_len (by decide) (by simp)
    obtain ⟨b2, off2, rfl⟩ := HB.out.plain icells_len (by decide) (by simp)
    have c1 : w.cell? ⟨b1, off1, none⟩ = some (.int .i64 1) := by
      have := HA.out.cell icells_len (i := 0) (c := 0) (by simp) (by decide)
      simpa [icells] using this
    have c2 : w.cell? ⟨b2, off2, none⟩ = some (.int .i64 0) := by
      have := HB.out.cell icells_len (i := 0) (c := 0) (by simp) (by decide)
      simpa [icells] using this
    clear HA HB
    go_enter Tryz.func23, Tryz.ntmps23
    go_wp2_with fail
    go_loopg [13] 1 (fun gk s13 wr => s13 = .int .i64 0 ∧ wr = w)
    case atStart => exact ⟨rfl, rfl⟩
    case round =>
      obtain ⟨rfl, rfl⟩ := hrel
      go_wp2_with fail
      go_quiet (fail)
      go_wp2_with fail
      go_ret
      exact ⟨rfl, below_drewN _ _⟩
  · have hz : ¬ (n : Int) + 1 = 2 := by omega
    have hzb : ((n : Int) + 1 == 2) = false := by simpa using hz
    clear HA HB
    go_enter Tryz.func23, Tryz.ntmps23
    go_wp2_with fail
    go_ret
    exact ⟨rfl, Below.refl _ _⟩
/-- a step of one detector leaves another one as it is -/
theorem two_kept {M M' N : DM} {x : Det} {w w' : World} (hN : DetAt w N x) (ht : Touch (fun k => k ∈ M.own) w w') (hn : NewM M M' w) (hd : ∀ k ∈ M.own, k ∉ N.own) : DetAt w' N x ∧ ∀ k ∈ M'.own, k ∉ N.own :=
  ⟨hN.keep fun k hk => ht.block k (hN.own_lt k hk) fun hm => hd k hm hk, fun k hk hm => (hn.own k hk).elim (fun h => hd k h hm) fun h => by have := hN.own_lt k hm; omega⟩
/-- a message in a row of messages, loaded whole -/
theorem msg_load {w : World} {g off n cap : Nat} {ps : List PSent} (hs : SlAt scells w (.slice (some ⟨g, off, none⟩) n cap) ps) {i : Nat} (hi : i < ps.length) : Sem.run Tryz.prog (loadCellsFrom ⟨g, off + i * 16, none⟩ 0 16 #[]) w = .ok (scells ps[i]).toArray w := by
  refine run_loadCellsFrom_list Tryz.prog w ⟨g, off + i * 16, none⟩ (scells ps[i]) 16 (scells_len _) fun j v hv => ?_
  rw [Addr.add_lit]
  have hj : j < 16 := by have := (List.getElem?_eq_some_iff.1 hv).1; rwa [scells_len] at this
  have := hs.cell scells_len (i := i) (c := j) hi hj
  rw [show off + i * 16 + j = off + (i * 16 + j) by omega, this, hv]
end Go.Proofs.YtejihgfigclppaaGreat
