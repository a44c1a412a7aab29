/-
  A detector to which nobody answers, plainly: round by round, each other is suspected, and dies. No program in sight.
  A detector to which nobody answers, plainly: from its start to its last tick. No program in sight.
-/
import Derived.Test.YtejihgfigclppaaGreatMLaw20b
namespace Go.Proofs.YtejihgfigclppaaGreat
open Go.RowKit Go.Lib
set_option linter.unusedVariables false
theorem drop_cons {L : List Int} {i : Nat} (h : i < L.length) : L.drop i = L.getD i 0 :: L.drop (i + 1) := by
  rw [List.drop_eq_getElem_cons h]
  simp [h]
theorem mem_take_or {L : List Int} {i : Nat} {x : Int} (h : x ∈ L) : x ∈ L.take i ∨ x ∈ L.drop i := by
  rw [← List.take_append_drop i L] at h
  exact List.mem_append.1 h
theorem take_next {L : List Int} {i : Nat} (h : i < L.length) {x : Int} (hx : x ∈ L.take (i + 1)) : x ∈ L.take i ∨ x = L.getD i 0 := by
  rw [List.take_add_one] at hx
  rcases List.mem_append.1 hx with a | a
  · exact .inl a
  · right
    simpa [h] using a
/-- what a detector is behind its giving up a probe of one that lives -/
def Det.gave (d : Det) (k : Nat) : Det := { d.say k 2 with pr := none }
theorem gave_keeps (d : Det) (k : Nat) : (d.gave k).pr = none ∧ (d.gave k).began = d.began ∧ (d.gave k).ws = d.ws ∧ (d.gave k).clock = d.clock ∧ (d.gave k).c = d.c ∧ (d.gave k).self = d.self ∧ (d.gave k).left = d.left := by
  obtain ⟨t, f, h⟩ := like_say d k 2
  unfold Det.gave
  rw [h]
  exact ⟨rfl, rfl, rfl, rfl, rfl, rfl, rfl⟩
theorem gave_at (d : Det) (k : Nat) (hk : 1 ≤ k) (hk7 : k ≤ 7) (hs : d.self = 0) (h : AtA d k) : AtS (d.gave k) k d.clock := by
  obtain ⟨a, b⟩ := say_at d k hk hk7 hs 1 2 h.1 (by decide) (by decide) (by decide)
  exact ⟨a, b⟩
theorem gave_else (d : Det) (j k : Nat) (h : k ≠ j) : (d.gave j).tab k = d.tab k ∧ (d.gave j).since k = d.since k := say_else d j k 2 h
theorem gave_A {d : Det} {j k : Nat} (h : k ≠ j) (a : AtA d k) : AtA (d.gave j) k := by
  obtain ⟨x, y⟩ := gave_else d j k h
  exact ⟨x.trans a.1, y.trans a.2⟩
theorem gave_gone {d : Det} {j k : Nat} (h : k ≠ j) {B : Int} (a : Gone B d k) : Gone B (d.gave j) k := by
  obtain ⟨x, y⟩ := gave_else d j k h
  rcases a with ⟨v, a, b⟩ | a
  · exact .inl ⟨v, ⟨x.trans a.1, y.trans a.2⟩, b⟩
  · exact .inr ⟨x.trans a.1, y.trans a.2⟩
theorem gave_base {n : Nat} (hn : n ≤ 7) {d : Det} (h : Base n d) {j : Nat} (hj : 1 ≤ j) (hj7 : j ≤ n) (ha : AtA d j) : Base n (d.gave j) := by
  obtain ⟨_, _, _, p4, p5, p6, p7⟩ := gave_keeps d j
  refine ⟨p6.trans h.self, p7.trans h.left, by rw [p5]; exact h.tout, by rw [p5]; exact h.gr, gave_A (by omega) h.own, fun k h1 h2 => ?_, fun k h1 h2 => ?_⟩
  · obtain ⟨a, b⟩ := h.out k h1 h2
    obtain ⟨x, y⟩ := gave_else d j k (by omega)
    exact ⟨x.trans a, y.trans b⟩
  · by_cases e : k = j
    · subst e
      refine .inr (.inl ⟨d.clock, gave_at d k h1 (by omega) h.self ha, by rw [p4]; exact Int.le_refl _, ?_⟩)
      rw [p4, p5]
      have := h.gr
      omega
    · obtain ⟨x, y⟩ := gave_else d j k e
      rcases h.each k h1 h2 with a | ⟨v, a, b, c⟩ | a
      · exact .inl ⟨x.trans a.1, y.trans a.2⟩
      · exact .inr (.inl ⟨v, ⟨x.trans a.1, y.trans a.2⟩, by rw [p4]; exact b, by rw [p4, p5]; exact c⟩)
      · exact .inr (.inr ⟨x.trans a.1, y.trans a.2⟩)
def AllGone (n : Nat) (B : Int) (d : Det) : Prop := ∀ k, 1 ≤ k → k ≤ n → Gone B d k
theorem begin_some {d : Det} {p : Int × Int} (h : d.pr = some p) : d.begin.1 = d := by unfold Det.begin; rw [h]
theorem begin_none {d : Det} (h : d.pr = none) (hn : othersT d.self d.tab ≠ []) : d.begin.1 = { d with s := (nextL d.s d.ws (othersT d.self d.tab)).1, ws := (nextL d.s d.ws (othersT d.self d.tab)).2.tail, num := d.num + 1, pr := some (d.num + 1, (nextL d.s d.ws (othersT d.self d.tab)).2.headD 0), began := d.clock } := by
  unfold Det.begin
  rw [h]
  dsimp only
  rw [if_neg hn]
theorem nextL_stays {s : Int} {ws nodes : List Int} (h : ∀ x ∈ ws, x ∈ nodes) (hne : ws ≠ []) : nextL s ws nodes = (s, ws) := by
  have e : ws.filter (fun x => !goneL nodes x) = ws := List.filter_eq_self.2 fun x hx => by simp [goneL, h x hx]
  unfold nextL
  rw [e, if_neg hne]
theorem nextL_empty (s : Int) (nodes : List Int) : nextL s [] nodes = shufL s (onceL nodes) := by
  unfold nextL
  rw [List.filter_nil, if_pos rfl]
/-- one tick within a round -/
theorem round_tick {n : Nat} (hn : n ≤ 7) {L : List Int} (hF : First n L) {i : Nat} {d : Det} (hb : Base n d) (h : Round n L i d) :
    Base n d.tick.1 ∧ ((∃ j, Round n L j d.tick.1) ∨ AllGone n (1 + 2 * d.c.tout * (L.length : Int)) d.tick.1) := by
  obtain ⟨p1, p2, p3, p4, p5, p6, p7, p8⟩ := pre_keeps d
  have hB := pre_base hn hb
  obtain ⟨q, hq⟩ := h.pr
  have hlo := h.lo
  have hhi := h.hi
  have hc1 := h.c1
  have hc2 := h.c2
  rw [tick_is hb.left]
  have hil : i - 1 < L.length := by omega
  have hdr := drop_cons hil
  rw [show i - 1 + 1 = i by omega] at hdr
  have hmem : L.getD (i - 1) 0 ∈ L := by
    have : L.getD (i - 1) 0 ∈ L.drop (i - 1) := by rw [hdr]; exact List.mem_cons_self ..
    exact List.mem_of_mem_drop this
  obtain ⟨k, hk, hk1, hkn⟩ := (hF.mem _).1 hmem
  have haL : ∀ k : Nat, 1 ≤ k → k ≤ n → (k : Int) ∈ L.drop (i - 1) → AtA d.pre k := fun j h1 h2 hm => pre_A (by omega) (h.alive j h1 h2 hm)
  have hgL : ∀ k : Nat, 1 ≤ k → k ≤ n → (k : Int) ∈ L.take (i - 1) → Gone (1 + 2 * d.c.tout * (L.length : Int)) d.pre k := fun j h1 h2 hm => pre_gone h1 (by omega) hb.self (h.gone j h1 h2 hm)
  rw [hk] at hq
  by_cases hw : d.clock + 1 < d.began + 2 * d.c.tout
  · have hg : d.pre.give = d.pre := give_wait (p1.trans hq) (by rw [p4, p2, p5]; omega)
    rw [hg, begin_some (p1.trans hq)]
    refine ⟨hB, .inl ⟨i, hlo, hhi, ⟨q, by rw [p1, hk]; exact hq⟩, by rw [p2, p5]; exact h.began, by rw [p2, p4]; omega, by rw [p2, p4, p5]; exact hw, by rw [p3]; exact h.ws, haL, by rw [p5]; exact hgL⟩⟩
  · have hak : AtA d.pre k := haL k hk1 hkn (by rw [hdr, hk]; exact List.mem_cons_self ..)
    have hg : d.pre.give = d.pre.gave k := give_alive (p1.trans hq) (by rw [p4, p2, p5]; omega) hak
    obtain ⟨g1, g2, g3, g4, g5, g6, g7⟩ := gave_keeps d.pre k
    have hGB := gave_base hn hB hk1 hkn hak
    have hclk : d.clock + 1 = 1 + 2 * d.c.tout * (i : Int) := by
      have e1 := h.began
      have e2 : 2 * d.c.tout * ((i : Int) - 1) = 2 * d.c.tout * (i : Int) - 2 * d.c.tout := by rw [Int.mul_sub, Int.mul_one]
      omega
    have hle : 2 * d.c.tout * (i : Int) ≤ 2 * d.c.tout * (L.length : Int) := Int.mul_le_mul_of_nonneg_left (by omega) (by have := hb.tout; omega)
    have hks : AtS (d.pre.gave k) k d.pre.clock := gave_at d.pre k hk1 (by omega) hB.self hak
    have hkg : Gone (1 + 2 * d.c.tout * (L.length : Int)) (d.pre.gave k) k := .inl ⟨_, hks, by rw [p4]; omega⟩
    have hgT : ∀ j : Nat, 1 ≤ j → j ≤ n → (j : Int) ∈ L.take i → Gone (1 + 2 * d.c.tout * (L.length : Int)) (d.pre.gave k) j := by
      intro j h1 h2 hm
      by_cases e : j = k
      · rw [e]; exact hkg
      · rw [show i = i - 1 + 1 by omega] at hm
        rcases take_next hil hm with a | a
        · exact gave_gone e (hgL j h1 h2 a)
        · exact absurd (by omega : j = k) e
    rw [hg]
    refine ⟨(begin_sameT _).base hGB, ?_⟩
    by_cases hi : i = L.length
    · right
      intro j h1 h2
      have hj : (j : Int) ∈ L := (hF.mem _).2 ⟨j, rfl, h1, h2⟩
      rw [← List.take_length (l := L), ← hi] at hj
      exact (begin_sameT _).gone (hgT j h1 h2 hj)
    · have hi' : i < L.length := by omega
      have hnd : (k : Int) ∉ L.drop i := by
        have := (List.nodup_cons.1 (by rw [← hdr]; exact hF.nd.sublist (List.drop_sublist _ _) : (L.getD (i - 1) 0 :: L.drop i).Nodup)).1
        rwa [hk] at this
      have haG : ∀ j : Nat, 1 ≤ j → j ≤ n → (j : Int) ∈ L.drop i → AtA (d.pre.gave k) j := by
        intro j h1 h2 hm
        refine gave_A (fun e => hnd (by rw [← e]; exact hm)) (haL j h1 h2 ?_)
        rw [hdr]
        exact List.mem_cons_of_mem _ hm
      have hsub : ∀ x ∈ (d.pre.gave k).ws, x ∈ othersT (d.pre.gave k).self (d.pre.gave k).tab := by
        intro x hx
        rw [g3, p3, h.ws] at hx
        obtain ⟨j, rfl, h1, h2⟩ := (hF.mem x).1 (List.mem_of_mem_drop hx)
        exact others_alive hGB h1 (by omega) (haG j h1 h2 hx)
      have hwsE : (d.pre.gave k).ws = L.getD i 0 :: L.drop (i + 1) := by rw [g3, p3, h.ws]; exact drop_cons hi'
      have hwsne : (d.pre.gave k).ws ≠ [] := by rw [hwsE]; exact List.cons_ne_nil _ _
      have hone : othersT (d.pre.gave k).self (d.pre.gave k).tab ≠ [] := by
        intro e
        have := hsub (L.getD i 0) (by rw [hwsE]; exact List.mem_cons_self ..)
        rw [e] at this
        cases this
      left
      rw [begin_none g1 hone, nextL_stays hsub hwsne, hwsE]
      refine ⟨i + 1, by omega, by omega, ⟨_, by rw [show i + 1 - 1 = i by omega]; rfl⟩, ?_, ?_, ?_, rfl, ?_, ?_⟩
      · show (d.pre.gave k).clock = 1 + 2 * (d.pre.gave k).c.tout * (((i + 1 : Nat) : Int) - 1)
        rw [g4, g5, p4, p5, hclk]
        congr 2
        omega
      · exact Int.le_refl _
      · show (d.pre.gave k).clock < (d.pre.gave k).clock + 2 * (d.pre.gave k).c.tout
        rw [g5, p5]
        have := hb.tout
        omega
      · intro j h1 h2 hm
        rw [show i + 1 - 1 = i by omega] at hm
        exact haG j h1 h2 hm
      · intro j h1 h2 hm
        rw [show i + 1 - 1 = i by omega] at hm
        show Gone (1 + 2 * (d.pre.gave k).c.tout * (L.length : Int)) _ j
        rw [g5, p5]
        exact hgT j h1 h2 hm
/-- once all are gone, they stay so -/
theorem gone_tick {n : Nat} (hn : n ≤ 7) {d : Det} (hok : DetOk d) (hb : Base n d) {B : Int} (h : AllGone n B d) : Base n d.tick.1 ∧ AllGone n B d.tick.1 := by
  obtain ⟨p1, p2, p3, p4, p5, p6, p7, p8⟩ := pre_keeps d
  have hB := pre_base hn hb
  have hG : AllGone n B d.pre := fun k h1 h2 => pre_gone h1 (by omega) hb.self (h k h1 h2)
  rw [tick_is hb.left]
  have hS : SameT d.pre d.pre.give := by
    cases e : d.pre.pr with
    | none => rw [give_none e]; exact .refl _
    | some p =>
      refine give_else e fun w hw => ?_
      obtain ⟨_, _, h3, h4, h5⟩ := hok.pr p (p1.symm.trans e)
      rw [hb.self] at h5
      by_cases hle : p.2.toNat ≤ n
      · rcases hG p.2.toNat (by omega) hle with ⟨v, a, _⟩ | a
        · rw [a.1] at hw; cases hw; decide
        · rw [a.1] at hw; cases hw; decide
      · have := (hB.out p.2.toNat (by omega) (by omega)).1
        rw [this] at hw
        cases hw
  have hT := hS.trans (begin_sameT _)
  exact ⟨hT.base hB, fun k h1 h2 => hT.gone (hG k h1 h2)⟩
/-- all along -/
def Phase (n : Nat) (L : List Int) (d : Det) : Prop := Base n d ∧ ((∃ j, Round n L j d) ∨ AllGone n (1 + 2 * d.c.tout * (L.length : Int)) d)
theorem tick_c (d : Det) (hn : d.left = false) : d.tick.1.c = d.c := by
  obtain ⟨p1, p2, p3, p4, p5, p6, p7, p8⟩ := pre_keeps d
  rw [tick_is hn, (begin_sameT _).c]
  unfold Det.give
  split
  · exact p5
  · split
    · exact p5
    · split
      · split
        · rw [← p5]; exact (same_say _ _ _).c
        · exact p5
      · exact p5
theorem Phase.tick {n : Nat} (hn : n ≤ 7) {L : List Int} (hF : First n L) {d : Det} (hok : DetOk d) (h : Phase n L d) : Phase n L d.tick.1 := by
  obtain ⟨hb, ⟨j, hr⟩ | hg⟩ := h
  · unfold Phase
    rw [tick_c d hb.left]
    exact round_tick hn hF hb hr
  · unfold Phase
    rw [tick_c d hb.left]
    exact ⟨(gone_tick hn hok hb hg).1, .inr (gone_tick hn hok hb hg).2⟩
theorem Phase.dead {n : Nat} (hn : n ≤ 7) {L : List Int} (hF : First n L) {d : Det} (h : Phase n L d) (hc : 1 + 2 * d.c.tout * (n : Int) + d.c.gr ≤ d.clock) : ∀ k, 1 ≤ k → k ≤ n → AtD d k := by
  obtain ⟨hb, h⟩ := h
  have h1 : 2 * d.c.tout * (L.length : Int) ≤ 2 * d.c.tout * (n : Int) := Int.mul_le_mul_of_nonneg_left (by have := hF.len; omega) (by have := hb.tout; omega)
  have hgr := hb.gr
  rcases h with ⟨j, hr⟩ | hg
  · have e1 := hr.began
    have e2 := hr.c2
    have e4 := hr.hi
    have e3 : 2 * d.c.tout * ((j : Int) - 1) + 2 * d.c.tout ≤ 2 * d.c.tout * (L.length : Int) := by
      have : 2 * d.c.tout * ((j : Int) - 1) + 2 * d.c.tout = 2 * d.c.tout * (j : Int) := by rw [Int.mul_sub, Int.mul_one]; omega
      rw [this]
      exact Int.mul_le_mul_of_nonneg_left (by omega) (by have := hb.tout; omega)
    omega
  · intro k k1 k2
    rcases hg k k1 k2 with ⟨v, a, b⟩ | a
    · rcases hb.each k k1 k2 with x | ⟨u, x, y, z⟩ | x
      · have := a.1.symm.trans x.1
        cases this
      · have := a.2.symm.trans x.2
        cases this
        omega
      · exact x
    · exact a
end Go.Proofs.YtejihgfigclppaaGreat
namespace Go.Proofs.YtejihgfigclppaaGreat
open Go.RowKit Go.Lib
set_option linter.unusedVariables false
/-- words on the first n others -/
def wordsN (n : Nat) : List Mb := (List.range n).map fun i : Nat => ⟨(i : Int) + 1, 1, 0⟩
theorem wordsN_next (n : Nat) : wordsN (n + 1) = wordsN n ++ [(⟨(n : Int) + 1, 1, 0⟩ : Mb)] := by unfold wordsN; rw [List.range_succ, List.map_append]; rfl
theorem wordsN_len (n : Nat) : (wordsN n).length = n := by unfold wordsN; simp
structure Start (n : Nat) (c : DConf) (d : Det) : Prop where
  self : d.self = 0
  inc : d.inc = 0
  left : d.left = false
  c : d.c = c
  clock : d.clock = 0
  num : d.num = 0
  pr : d.pr = none
  ws : d.ws = []
  alive : ∀ k, k ≤ n → AtA d k
  out : ∀ k, n < k → d.tab k = none ∧ d.since k = none
theorem start_new (c : DConf) (seed : Int) : Start 0 c (Det.new 0 0 c seed) :=
  ⟨rfl, rfl, rfl, rfl, rfl, rfl, rfl, rfl, fun k hk => by rw [show k = 0 by omega]; exact ⟨rfl, rfl⟩, fun k hk => ⟨if_neg (by show ¬ k = (0 : Int).toNat; simp; omega), rfl⟩⟩
theorem start_hear {n : Nat} (hn : n < 7) {c : DConf} {d : Det} (h : Start n c d) : Start (n + 1) c (d.hear ⟨(n : Int) + 1, 1, 0⟩) := by
  have e : d.hear ⟨(n : Int) + 1, 1, 0⟩ = { d with tab := updT d.tab (n + 1) ⟨1, 0⟩, since := updI d.since ((n : Int) + 1) none } := by
    have hm : Mb.may ⟨(n : Int) + 1, 1, 0⟩ := ⟨by show (0 : Int) ≤ (n : Int) + 1; omega, by show (n : Int) + 1 ≤ 7; omega, by show (1 : Int) ≤ 1; decide, by show (1 : Int) ≤ 4; decide, Int.le_refl 0, by show (0 : Int) ≤ 1099511627776; decide⟩
    have ht : ((n : Int) + 1).toNat = n + 1 := by omega
    have hnw : newsT d.tab ⟨(n : Int) + 1, 1, 0⟩ = true := by
      unfold newsT
      simp only [ht, (h.out (n + 1) (by omega)).1]
    have hne : ¬ (n : Int) + 1 = d.self := by rw [h.self]; omega
    unfold Det.hear
    rw [if_pos ⟨hm, hnw⟩, if_neg hne]
    simp only [ht]
    rfl
  rw [e]
  have hs : ∀ k : Nat, updI d.since ((n : Int) + 1) none (k : Int) = none ∨ updI d.since ((n : Int) + 1) none (k : Int) = d.since (k : Int) := by
    intro k
    unfold updI
    split
    · exact .inl rfl
    · exact .inr rfl
  refine ⟨h.self, h.inc, h.left, h.c, h.clock, h.num, h.pr, h.ws, fun k hk => ?_, fun k hk => ⟨(updT_other _ _ (by omega)).trans (h.out k (by omega)).1, (hs k).elim id fun e => e.trans (h.out k (by omega)).2⟩⟩
  by_cases hk1 : k = n + 1
  · subst hk1
    refine ⟨updT_same _ _ _, ?_⟩
    rcases hs (n + 1) with e | e
    · exact e
    · exact e.trans (h.out (n + 1) (by omega)).2
  · have ha := h.alive k (by omega)
    exact ⟨(updT_other _ _ hk1).trans ha.1, (hs k).elim id fun e => e.trans ha.2⟩
theorem start_hears (c : DConf) (seed : Int) : ∀ n, n ≤ 7 → Start n c ((Det.new 0 0 c seed).hears (wordsN n))
  | 0, _ => start_new c seed
  | n + 1, h => by
    rw [wordsN_next, show (Det.new 0 0 c seed).hears (wordsN n ++ [(⟨(n : Int) + 1, 1, 0⟩ : Mb)]) = ((Det.new 0 0 c seed).hears (wordsN n)).hear ⟨(n : Int) + 1, 1, 0⟩ from by unfold Det.hears; rw [List.foldl_append]; rfl]
    exact start_hear (by omega) (start_hears c seed n (by omega))
theorem start_contra {n : Nat} {c : DConf} {d : Det} (h : Start n c d) : d.contradict = d := by
  have h0 := (h.alive 0 (Nat.zero_le _)).1
  unfold Det.contradict
  have hs : d.self.toNat = 0 := by rw [h.self]; rfl
  rw [hs, h0]
  exact if_pos (.inr (.inl ⟨rfl, by rw [h.inc]; exact Int.le_refl 0⟩))
theorem start_on (c : DConf) (seed : Int) (n : Nat) (hn : n ≤ 7) : Start n c ((Det.new 0 0 c seed).on ⟨1, 1, 0, 0, 0, wordsN n⟩).1 := by
  have h := start_hears c seed n hn
  unfold Det.on
  dsimp only
  rw [if_pos rfl, start_contra h]
  exact h
theorem Start.base {n : Nat} {c : DConf} {d : Det} (h : Start n c d) (hc : c.right) : Base n d :=
  ⟨h.self, h.left, by rw [h.c]; exact hc.1, by rw [h.c]; exact hc.2.2.2.2.1, h.alive 0 (Nat.zero_le _), fun k h1 _ => h.out k h1, fun k _ h2 => .inl (h.alive k h2)⟩
/-- the first tick begins the first round -/
theorem start_tick {n : Nat} (hn : n ≤ 7) (h1n : 1 ≤ n) {c : DConf} (hc : c.right) {d : Det} (h : Start n c d) : ∃ L, First n L ∧ Phase n L d.tick.1 := by
  obtain ⟨p1, p2, p3, p4, p5, p6, p7, p8⟩ := pre_keeps d
  have hb := h.base hc
  have hB := pre_base hn hb
  have haP : ∀ k, k ≤ n → AtA d.pre k := fun k hk => pre_A (by omega) (h.alive k hk)
  obtain ⟨O, hO⟩ : ∃ O, O = othersT d.pre.self d.pre.tab := ⟨_, rfl⟩
  have hmem : ∀ x, x ∈ O ↔ ∃ k : Nat, x = (k : Int) ∧ 1 ≤ k ∧ k ≤ n := by
    intro x
    rw [hO, mem_othersT, hB.self]
    constructor
    · rintro ⟨h0, k, h1, rfl, w, h2, h3⟩
      refine ⟨k, rfl, by omega, ?_⟩
      by_cases hk : k ≤ n
      · exact hk
      · have := (hB.out k (by omega) h1).1
        rw [this] at h2
        cases h2
    · rintro ⟨k, rfl, h1, h2⟩
      exact ⟨by omega, k, by omega, rfl, _, (haP k h2).1, rfl⟩
  have hOl : O.length ≤ 8 := by rw [hO]; exact othersT_len _ _
  have hone : O ≠ [] := by
    intro e
    have := (hmem 1).2 ⟨1, rfl, by omega, h1n⟩
    rw [e] at this
    cases this
  obtain ⟨L, hL⟩ : ∃ L, L = (shufL d.pre.s (onceL O)).2 := ⟨_, rfl⟩
  have hp : L.Perm (onceL O) := by rw [hL]; exact shufL_perm _ _ (by have := onceL_len O; omega)
  have hLm : ∀ x, x ∈ L ↔ ∃ k : Nat, x = (k : Int) ∧ 1 ≤ k ∧ k ≤ n := fun x => (hp.mem_iff.trans ((onceL_is O).2 x)).trans (hmem x)
  have hnd : L.Nodup := hp.nodup_iff.2 (onceL_nodup O)
  have hon : (List.range n).map (fun i : Nat => (i : Int) + 1) = onceL O := by
    refine onceL_eq ?_ fun x => ?_
    · unfold Rises
      rw [List.pairwise_map]
      exact List.pairwise_lt_range.imp fun h => by omega
    · rw [hmem, List.mem_map]
      constructor
      · rintro ⟨a, ha, rfl⟩
        have := List.mem_range.1 ha
        exact ⟨a + 1, by omega, by omega, by omega⟩
      · rintro ⟨k, rfl, h1, h2⟩
        exact ⟨k - 1, List.mem_range.2 (by omega), by omega⟩
  have hlen : L.length ≤ n := by
    rw [hp.length_eq, ← hon, List.length_map, List.length_range]
    exact Nat.le_refl _
  have hF : First n L := ⟨hnd, hLm, hlen⟩
  have hLne : L ≠ [] := by
    intro e
    have := (hLm 1).2 ⟨1, rfl, by omega, h1n⟩
    rw [e] at this
    cases this
  have hl1 : 0 < L.length := List.length_pos_iff.2 hLne
  refine ⟨L, hF, ?_⟩
  have hpr : d.pre.pr = none := p1.trans h.pr
  rw [tick_is h.left, give_none hpr]
  refine ⟨(begin_sameT _).base hB, .inl ⟨1, ?_⟩⟩
  have hne : nextL d.pre.s d.pre.ws (othersT d.pre.self d.pre.tab) = shufL d.pre.s (onceL O) := by rw [← hO, p3, h.ws, nextL_empty]
  rw [begin_none hpr (by rw [← hO]; exact hone), hne, ← hL]
  have hd0 := drop_cons hl1
  rw [List.drop_zero] at hd0
  have hclk : d.pre.clock = 1 := by rw [p4, h.clock]; rfl
  refine ⟨Nat.le_refl _, hl1, ⟨_, by rw [show (1 : Nat) - 1 = 0 from rfl, hd0]; rfl⟩, ?_, Int.le_refl _, ?_, ?_, ?_, fun k _ _ hm => nomatch hm⟩
  · show d.pre.clock = 1 + 2 * d.pre.c.tout * (((1 : Nat) : Int) - 1)
    rw [hclk]
    simp
  · show d.pre.clock < d.pre.clock + 2 * d.pre.c.tout
    have := hB.tout
    omega
  · show L.tail = L.drop 1
    simp
  · intro k h1 h2 _
    exact haP k h2
def ticks : Nat → Det → Det
  | 0, d => d
  | k + 1, d => (ticks k d).tick.1
theorem tick_clock {d : Det} (h : d.left = false) : d.tick.1.clock = d.clock + 1 := by
  obtain ⟨p1, p2, p3, p4, p5, p6, p7, p8⟩ := pre_keeps d
  rw [tick_is h, (begin_sameT _).clock, (same_give _).clock, p4]
theorem ticks_ok {d : Det} (hok : DetOk d) (hl : d.left = false) (hc : d.clock = 0) (hn : d.num = 0) : ∀ k : Nat, k ≤ 900000 → DetOk (ticks k d) ∧ (ticks k d).left = false ∧ (ticks k d).c = d.c ∧ (ticks k d).clock = k ∧ (ticks k d).num ≤ k
  | 0, _ => ⟨hok, hl, rfl, hc, by rw [show ticks 0 d = d from rfl, hn]; exact Int.le_refl _⟩
  | k + 1, h => by
    obtain ⟨h1, h2, h3, h4, h5⟩ := ticks_ok hok hl hc hn k (by omega)
    obtain ⟨s1, s2, s3, s4, s5, s6, s7⟩ := tick_same (ticks k d)
    exact ⟨h1.tick (by rw [h4]; omega) (by omega), s7.trans h2, s2.trans h3, (tick_clock h2).trans (by rw [h4]; omega), by show (ticks k d).tick.1.num ≤ _; omega⟩
theorem ticks_phase {n : Nat} (hn : n ≤ 7) {L : List Int} (hF : First n L) {d : Det} (hok : DetOk d) (hl : d.left = false) (hc : d.clock = 0) (hnm : d.num = 0) (h : Phase n L d.tick.1) : ∀ k : Nat, k ≤ 800000 → Phase n L (ticks (k + 1) d)
  | 0, _ => h
  | k + 1, hk => Phase.tick hn hF (ticks_ok hok hl hc hnm (k + 1) (by omega)).1 (ticks_phase hn hF hok hl hc hnm h k (by omega))
theorem wordsTo_full (t : Tab) : ∀ m, (∀ k, k < m → ∃ w, t k = some w) → (wordsTo t m).length = m
  | 0, _ => rfl
  | m + 1, h => by
    obtain ⟨w, hw⟩ := h m (by omega)
    unfold wordsTo
    rw [hw, List.length_append, wordsTo_full t m fun k hk => h k (by omega)]
    rfl
theorem wordsTo_more (t : Tab) (m : Nat) : ∀ j, (∀ k, m ≤ k → k < m + j → t k = none) → wordsTo t (m + j) = wordsTo t m
  | 0, _ => rfl
  | j + 1, h => by
    rw [show m + (j + 1) = (m + j) + 1 by omega]
    show wordsTo t (m + j) ++ (match t (m + j) with | some w => [(⟨((m + j : Nat) : Int), w.st, w.inc⟩ : Mb)] | none => []) = _
    rw [h (m + j) (by omega) (by omega), wordsTo_more t m j fun k h1 h2 => h k h1 (by omega)]
    exact List.append_nil _
/-- the law's example -/
structure ExF (c : DConf) (n : Nat) (seed : Int) (d0 d1 : Det) : Prop where
  s0 : Det.new 0 0 c seed = d0
  k0 : DetOk d0
  n0 : d0.num < 1000000
  lf0 : d0.left = false
  z0 : d0.self = 0
  s1 : (d0.on ⟨1, 1, 0, 0, 0, wordsN n⟩).1 = d1
  ok : ∀ k : Nat, k ≤ 900000 → DetOk (ticks k d1) ∧ (ticks k d1).clock < 1000000 ∧ (ticks k d1).num < 1000000
  fin : ∀ k : Nat, (k : Int) = 2 * (n : Int) * 2 * c.tout + c.gr + 2 → othersT (ticks k d1).self (ticks k d1).tab = [] ∧ (allT (ticks k d1).tab).length = n + 1 ∧ ∀ m ∈ allT (ticks k d1).tab, m.node ≠ 0 → m.st = 3
theorem exF (c : DConf) (hc : c.right) (n : Nat) (h1n : 1 ≤ n) (hn : n ≤ 7) (seed : Int) : ∃ d0 d1, ExF c n seed d0 d1 := by
  have hok0 : DetOk (Det.new 0 0 c seed) := DetOk.new (by decide) hc
  have hS := start_on c seed n hn
  have hn0 : (Det.new 0 0 c seed).num < 1000000 := by show (0 : Int) < 1000000; decide
  have hok1 : DetOk ((Det.new 0 0 c seed).on ⟨1, 1, 0, 0, 0, wordsN n⟩).1 := hok0.on _ hn0
  refine ⟨_, _, rfl, hok0, hn0, rfl, rfl, rfl, fun k hk => ?_, fun k hk => ?_⟩
  · obtain ⟨h1, h2, h3, h4, h5⟩ := ticks_ok hok1 hS.left hS.clock hS.num k hk
    exact ⟨h1, by rw [h4]; omega, by omega⟩
  · generalize ((Det.new 0 0 c seed).on ⟨1, 1, 0, 0, 0, wordsN n⟩).1 = d at *
    obtain ⟨L, hF, hP⟩ := start_tick hn h1n hc hS
    obtain ⟨c1, c2, _, _, c5, c6⟩ := hc
    have hb0 : 0 ≤ (n : Int) * c.tout := Int.mul_nonneg (by omega) (by omega)
    have hb1 : (n : Int) * c.tout ≤ 7 * 100 := Int.mul_le_mul (by omega) c2 (by omega) (by omega)
    have e1 : 2 * (n : Int) * 2 * c.tout = 4 * ((n : Int) * c.tout) := by rw [show 2 * (n : Int) * 2 = 4 * (n : Int) by omega, Int.mul_assoc]
    have e2 : 2 * c.tout * (n : Int) = 2 * ((n : Int) * c.tout) := by rw [Int.mul_assoc, Int.mul_comm c.tout]
    rw [e1] at hk
    have hk1 : 1 ≤ k := by omega
    have hph := ticks_phase hn hF hok1 hS.left hS.clock hS.num hP (k - 1) (by omega)
    rw [show k - 1 + 1 = k by omega] at hph
    obtain ⟨t1, t2, t3, t4, t5⟩ := ticks_ok hok1 hS.left hS.clock hS.num k (by omega)
    have hdead := hph.dead hn hF (by rw [t3, t4, hS.c, e2]; omega)
    have hB := hph.1
    generalize ticks k d = e at *
    refine ⟨?_, ?_, fun m hm h0 => ?_⟩
    · refine List.eq_nil_iff_forall_not_mem.2 fun x hx => ?_
      obtain ⟨x0, j, j1, rfl, w, j2, j3⟩ := (mem_othersT _ _ _).1 hx
      rw [hB.self] at x0
      by_cases hj : j ≤ n
      · have := (hdead j (by omega) hj).1
        rw [this] at j2
        cases j2
        exact absurd j3 (by decide)
      · rw [(hB.out j (by omega) j1).1] at j2
        cases j2
    · unfold allT
      have := wordsTo_more e.tab (n + 1) (7 - n) fun k h1 h2 => (hB.out k (by omega) (by omega)).1
      rw [show n + 1 + (7 - n) = 8 by omega] at this
      rw [this]
      refine wordsTo_full _ _ fun k hk => ?_
      by_cases hk0 : k = 0
      · rw [hk0]; exact ⟨_, hB.own.1⟩
      · exact ⟨_, (hdead k (by omega) (by omega)).1⟩
    · obtain ⟨j, j1, j2, j3⟩ := (mem_allT _ _).1 hm
      by_cases hj : j ≤ n
      · have := (hdead j (by omega) hj).1
        rw [this] at j3
        have := congrArg Wd.st (Option.some.inj j3)
        exact this.symm
      · rw [(hB.out j (by omega) j1).1] at j3
        cases j3
end Go.Proofs.YtejihgfigclppaaGreat
