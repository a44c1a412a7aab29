/-
  Any message of a detector's kind, handed to a detector; the document's answer on patience.
  A detector to which nobody answers, plainly: within so many ticks all others are dead. No program in sight.
  A detector to which nobody answers, plainly: its ticks, one by one. No program in sight.
  A detector to which nobody answers, plainly: round by round, each other is suspected, and dies. No program in sight.
  A detector to which nobody answers, plainly: from its start to its last tick. No program in sight.
  Two detectors of which one leaves, plainly. No program in sight.
  Two rows of numbers that differ at once; two detectors side by side; a message sent, loaded whole.
-/
import Derived.Test.YtejihgfigclppaaGreatAlive20
import Derived.Test.YtejihgfigclppaaGreatMSwimV
namespace Go.Proofs.YtejihgfigclppaaGreat
open Go.Shelf Go.RowKit Go.Lib Go.Sort
set_option linter.unusedVariables false
set_option linter.unusedSimpArgs false
def Sent.got (s : Sent) : Got := ⟨s.kind, s.frm, s.to_, s.seq, s.node, s.ms⟩
theorem sent_in {w : World} {s : Sent} {hs : Hdr} (h : SlAt Mb.cells w hs.val s.ms) : MsgIn w (s.msg hs) := ⟨SlAt.nil _ _, ⟨SlAt.nil _ _, fun p hp => nomatch hp⟩, h⟩
theorem onSent_any (M : DM) (d : Det) (hok : DetOk d) (hn : d.num < 1000000) (hl : d.left = false) (s : Sent) (hd : Hdr) (hr : (s.msg hd).right) (ht : s.to_ = d.self) (hs : s.ms.length ≤ 1000) (w : World) (hsl : SlAt Mb.cells w hd.val s.ms) (hA : ∀ b, hd.val.ownBlock = some b → b ∉ M.own) (h : DetAt w M d) :
    Calls Tryz.prog 12 #[.pointer (some ⟨M.g, 0, none⟩), .agg #[.int .i64 s.kind, .int .i64 s.frm, .int .i64 s.to_, .int .i64 s.seq, .int .i64 s.node, .int .i64 0, .int .i64 0, .int .i64 0, .int .i64 0, .int .i64 0, .int .i64 0, .int .i64 0, .int .i64 0, .slice none 0 0, .slice none 0 0, hd.val]] w fun e w' =>
      ∃ v, e = .returned (.tuple #[v, .int .i64 0]) ∧ Stepped M (d.on s.got).1 (d.on s.got).2 w v w' := by
  have hb : badOn d (s.msg hd) = false := by
    unfold badOn
    rw [Msg.rightB_true hr, show decide ((s.msg hd).to_ = d.self) = true from decide_eq_true ht]
    rfl
  have hc := on_any M d hok hn (s.msg hd) (Sent.small hs) w (sent_in hsl) (.inr hA) h
  exact hc.mono fun e w' ⟨_, _, h3⟩ => h3 hb hl
theorem onSent_bad (M : DM) (d : Det) (hok : DetOk d) (hn : d.num < 1000000) (s : Sent) (hd : Hdr) (hr : ¬ (s.msg hd).right) (hs : s.ms.length ≤ 1000) (w : World) (hsl : SlAt Mb.cells w hd.val s.ms) (hA : ∀ b, hd.val.ownBlock = some b → b ∉ M.own) (h : DetAt w M d) :
    Calls Tryz.prog 12 #[.pointer (some ⟨M.g, 0, none⟩), .agg #[.int .i64 s.kind, .int .i64 s.frm, .int .i64 s.to_, .int .i64 s.seq, .int .i64 s.node, .int .i64 0, .int .i64 0, .int .i64 0, .int .i64 0, .int .i64 0, .int .i64 0, .int .i64 0, .int .i64 0, .slice none 0 0, .slice none 0 0, hd.val]] w fun e w' =>
      e = .returned (.tuple #[.slice none 0 0, .int .i64 2]) ∧ Below w.heap.size w w' := by
  have hb : badOn d (s.msg hd) = true := by
    unfold badOn
    rw [Msg.rightB_false hr]
    rfl
  have hc := on_any M d hok hn (s.msg hd) (Sent.small hs) w (sent_in hsl) (.inr hA) h
  exact hc.mono fun e w' ⟨h1, _, _⟩ => h1 hb
/-- one that has left takes nothing -/
theorem onSent_left (M : DM) (d : Det) (hok : DetOk d) (hn : d.num < 1000000) (hl : d.left = true) (s : Sent) (hd : Hdr) (hr : (s.msg hd).right) (ht : s.to_ = d.self) (hs : s.ms.length ≤ 1000) (w : World) (hsl : SlAt Mb.cells w hd.val s.ms) (hA : ∀ b, hd.val.ownBlock = some b → b ∉ M.own) (h : DetAt w M d) :
    Calls Tryz.prog 12 #[.pointer (some ⟨M.g, 0, none⟩), .agg #[.int .i64 s.kind, .int .i64 s.frm, .int .i64 s.to_, .int .i64 s.seq, .int .i64 s.node, .int .i64 0, .int .i64 0, .int .i64 0, .int .i64 0, .int .i64 0, .int .i64 0, .int .i64 0, .int .i64 0, .slice none 0 0, .slice none 0 0, hd.val]] w fun e w' =>
      e = .returned (.tuple #[.slice none 0 0, .int .i64 16]) ∧ Below w.heap.size w w' := by
  have hb : badOn d (s.msg hd) = false := by
    unfold badOn
    rw [Msg.rightB_true hr, show decide ((s.msg hd).to_ = d.self) = true from decide_eq_true ht]
    rfl
  have hc := on_any M d hok hn (s.msg hd) (Sent.small hs) w (sent_in hsl) (.inr hA) h
  exact hc.mono fun e w' ⟨_, h2, _⟩ => h2 hb hl
set_option maxHeartbeats 8000000 in
theorem refRight20_any (c : DConf) (w : World) : Calls Tryz.prog 10 #[.agg #[.int .i64 c.tout, .int .i64 c.ind, .int .i64 c.gr]] w fun e w' => e = .returned (.bool (decide c.right)) ∧ Below w.heap.size w w' := by
  obtain ⟨t, i, g⟩ := c
  have HB : Hid (Below w.heap.size w (w.alloc (.cells #[.int .i64 t, .int .i64 i, .int .i64 g] 23))) := (Below.refl _ _).alloc (Nat.le_refl _) _
  by_cases h1 : 1 ≤ t
  · by_cases h2 : t ≤ 100
    · by_cases h3 : 0 ≤ i
      · by_cases h4 : i ≤ 8
        · by_cases h5 : 1 ≤ g
          · by_cases h6 : g ≤ 1000
            · have hr : decide (DConf.right ⟨t, i, g⟩) = true := decide_eq_true ⟨h1, h2, h3, h4, h5, h6⟩
              rw [hr]
              clear hr
              go_enter Tryz.func10, Tryz.ntmps10
              go_wp2_with fail
              go_ret
              exact ⟨rfl, HB.out⟩
            · have hr : decide (DConf.right ⟨t, i, g⟩) = false := decide_eq_false fun h => h6 h.2.2.2.2.2
              rw [hr]
              clear hr
              go_enter Tryz.func10, Tryz.ntmps10
              go_wp2_with fail
              go_ret
              exact ⟨rfl, HB.out⟩
          · have hr : decide (DConf.right ⟨t, i, g⟩) = false := decide_eq_false fun h => h5 h.2.2.2.2.1
            rw [hr]
            clear hr
            go_enter Tryz.func10, Tryz.ntmps10
            go_wp2_with fail
            go_ret
            exact ⟨rfl, HB.out⟩
        · have hr : decide (DConf.right ⟨t, i, g⟩) = false := decide_eq_false fun h => h4 h.2.2.2.1
          rw [hr]
          clear hr
          go_enter Tryz.func10, Tryz.ntmps10
          go_wp2_with fail
          go_ret
          exact ⟨rfl, HB.out⟩
      · have hr : decide (DConf.right ⟨t, i, g⟩) = false := decide_eq_false fun h => h3 h.2.2.1
        rw [hr]
        clear hr
        go_enter Tryz.func10, Tryz.ntmps10
        go_wp2_with fail
        go_ret
        exact ⟨rfl, HB.out⟩
    · have hr : decide (DConf.right ⟨t, i, g⟩) = false := decide_eq_false fun h => h2 h.2.1
      rw [hr]
      clear hr
      go_enter Tryz.func10, Tryz.ntmps10
      go_wp2_with fail
      go_ret
      exact ⟨rfl, HB.out⟩
  · have hr : decide (DConf.right ⟨t, i, g⟩) = false := decide_eq_false fun h => h1 h.1
    rw [hr]
    clear hr
    go_enter Tryz.func10, Tryz.ntmps10
    go_wp2_with fail
    go_ret
    exact ⟨rfl, HB.out⟩
end Go.Proofs.YtejihgfigclppaaGreat
namespace Go.Proofs.YtejihgfigclppaaGreat
open Go.RowKit Go.Lib
set_option linter.unusedVariables false
def AtA (d : Det) (k : Nat) : Prop := d.tab k = some ⟨1, 0⟩ ∧ d.since k = none
def AtS (d : Det) (k : Nat) (v : Int) : Prop := d.tab k = some ⟨2, 0⟩ ∧ d.since k = some v
def AtD (d : Det) (k : Nat) : Prop := d.tab k = some ⟨3, 0⟩ ∧ d.since k = none
/-- only the table, and since when, have turned -/
def Like (d e : Det) : Prop := ∃ t f, e = { d with tab := t, since := f }
theorem Like.refl (d : Det) : Like d d := ⟨d.tab, d.since, rfl⟩
theorem Like.trans {a b c : Det} (h : Like a b) (k : Like b c) : Like a c := by
  obtain ⟨t, f, rfl⟩ := h
  obtain ⟨t', f', rfl⟩ := k
  exact ⟨t', f', rfl⟩
theorem like_hear (d : Det) (m : Mb) : Like d (d.hear m) := by
  unfold Det.hear
  split
  · split
    · exact ⟨_, d.since, rfl⟩
    · exact ⟨_, _, rfl⟩
  · exact .refl _
theorem like_say (d : Det) (n st : Int) : Like d (d.say n st) := by
  unfold Det.say
  split
  · exact like_hear _ _
  · exact .refl _
theorem like_bury1 (d : Det) (n : Nat) : Like d (d.bury1 n) := by
  unfold Det.bury1
  split
  · split
    · exact like_say _ _ _
    · exact .refl _
  · exact .refl _
theorem like_buryTo (d : Det) : ∀ n, Like d (d.buryTo n)
  | 0 => .refl _
  | n + 1 => (like_buryTo d n).trans (like_bury1 _ n)
/-- a word that is heard turns its own node alone -/
theorem hear_else (d : Det) (j k : Nat) (st : Int) (inc : Int) (h : k ≠ j) : (d.hear ⟨j, st, inc⟩).tab k = d.tab k ∧ (d.hear ⟨j, st, inc⟩).since k = d.since k := by
  have h1 : (k : Int) ≠ (j : Int) := by omega
  unfold Det.hear
  split
  · split
    · exact ⟨updT_other _ _ (by simpa using h), rfl⟩
    · refine ⟨updT_other _ _ (by simpa using h), ?_⟩
      show updI d.since (j : Int) _ (k : Int) = _
      unfold updI
      rw [if_neg h1]
  · exact ⟨rfl, rfl⟩
theorem say_else (d : Det) (j k : Nat) (st : Int) (h : k ≠ j) : (d.say j st).tab k = d.tab k ∧ (d.say j st).since k = d.since k := by
  unfold Det.say
  split
  · exact hear_else d j k st _ h
  · exact ⟨rfl, rfl⟩
theorem bury1_else (d : Det) (j k : Nat) (h : k ≠ j) : (d.bury1 j).tab k = d.tab k ∧ (d.bury1 j).since k = d.since k := by
  unfold Det.bury1
  split
  · split
    · exact say_else d j k 3 h
    · exact ⟨rfl, rfl⟩
  · exact ⟨rfl, rfl⟩
/-- a word said of a node that is known, and counts less -/
theorem say_at (d : Det) (k : Nat) (hk : 1 ≤ k) (hk7 : k ≤ 7) (hs : d.self = 0) (st st' : Int) (h : d.tab k = some ⟨st, 0⟩) (hst : st < st') (h2 : 2 ≤ st') (h3 : st' ≤ 4) : (d.say k st').tab k = some ⟨st', 0⟩ ∧ (d.say k st').since k = if st' = 2 then some d.clock else none := by
  have hm : Mb.may ⟨(k : Int), st', 0⟩ := ⟨by show (0 : Int) ≤ k; omega, by show (k : Int) ≤ 7; omega, by show 1 ≤ st'; omega, h3, Int.le_refl 0, by show (0 : Int) ≤ 1099511627776; decide⟩
  have hn : newsT d.tab ⟨(k : Int), st', 0⟩ = true := by
    unfold newsT
    simp only [Int.toNat_natCast, h]
    exact decide_eq_true (.inr ⟨rfl, hst⟩)
  have hne : ¬ (k : Int) = d.self := by rw [hs]; omega
  have e : d.say k st' = { d with tab := updT d.tab k ⟨st', 0⟩, since := updI d.since k (if st' = 2 then some d.clock else none) } := by
    unfold Det.say
    simp only [Int.toNat_natCast, h]
    unfold Det.hear
    rw [if_pos ⟨hm, hn⟩, if_neg hne]
    rfl
  rw [e]
  refine ⟨updT_same _ _ _, ?_⟩
  show updI d.since (k : Int) _ (k : Int) = _
  unfold updI
  rw [if_pos rfl]
theorem bury1_none (d : Det) (k : Nat) (h : d.since k = none) : d.bury1 k = d := by unfold Det.bury1; rw [h]
theorem bury1_wait (d : Det) (k : Nat) (v : Int) (h : d.since k = some v) (hw : ¬ d.c.gr ≤ d.clock - v) : d.bury1 k = d := by unfold Det.bury1; rw [h]; exact if_neg hw
theorem bury1_dead (d : Det) (k : Nat) (hk : 1 ≤ k) (hk7 : k ≤ 7) (hs : d.self = 0) (v : Int) (h : AtS d k v) (hw : d.c.gr ≤ d.clock - v) : AtD (d.bury1 k) k := by
  have e : d.bury1 k = d.say k 3 := by unfold Det.bury1; rw [h.2]; exact if_pos hw
  rw [e]
  obtain ⟨h1, h2⟩ := say_at d k hk hk7 hs 2 3 h.1 (by decide) (by decide) (by decide)
  exact ⟨h1, h2⟩
/-- what burying makes of one node -/
theorem buryTo_at (d : Det) (k : Nat) : ∀ m, (k ≥ m → (d.buryTo m).tab k = d.tab k ∧ (d.buryTo m).since k = d.since k) ∧ (k < m → (d.buryTo m).tab k = ((d.buryTo k).bury1 k).tab k ∧ (d.buryTo m).since k = ((d.buryTo k).bury1 k).since k)
  | 0 => ⟨fun _ => ⟨rfl, rfl⟩, fun h => absurd h (by omega)⟩
  | m + 1 => by
    obtain ⟨h1, h2⟩ := buryTo_at d k m
    refine ⟨fun h => ?_, fun h => ?_⟩
    · obtain ⟨a, b⟩ := h1 (by omega)
      obtain ⟨c, e⟩ := bury1_else (d.buryTo m) m k (by omega)
      exact ⟨c.trans a, e.trans b⟩
    · by_cases hkm : k = m
      · subst hkm; exact ⟨rfl, rfl⟩
      · obtain ⟨a, b⟩ := h2 (by omega)
        obtain ⟨c, e⟩ := bury1_else (d.buryTo m) m k hkm
        exact ⟨c.trans a, e.trans b⟩
theorem bury_at (d : Det) (k : Nat) (hk8 : k < 8) : ∃ e, Like d e ∧ e.tab k = d.tab k ∧ e.since k = d.since k ∧ d.bury.tab k = (e.bury1 k).tab k ∧ d.bury.since k = (e.bury1 k).since k := by
  obtain ⟨a, b⟩ := (buryTo_at d k k).1 (Nat.le_refl _)
  obtain ⟨c, f⟩ := (buryTo_at d k 8).2 hk8
  exact ⟨d.buryTo k, like_buryTo d k, a, b, c, f⟩
theorem bury_none (d : Det) (k : Nat) (hk8 : k < 8) (h : d.since k = none) : d.bury.tab k = d.tab k ∧ d.bury.since k = none := by
  obtain ⟨e, _, h1, h2, h3, h4⟩ := bury_at d k hk8
  rw [bury1_none e k (h2.trans h)] at h3 h4
  exact ⟨h3.trans h1, h4.trans (h2.trans h)⟩
theorem bury_susp (d : Det) (k : Nat) (hk : 1 ≤ k) (hk7 : k ≤ 7) (hs : d.self = 0) (v : Int) (h : AtS d k v) : (d.c.gr ≤ d.clock - v ∧ AtD d.bury k) ∨ (¬ d.c.gr ≤ d.clock - v ∧ AtS d.bury k v) := by
  obtain ⟨e, ⟨t, f, he⟩, h1, h2, h3, h4⟩ := bury_at d k (by omega)
  have hce : e.c = d.c := by rw [he]
  have hcl : e.clock = d.clock := by rw [he]
  have hse : e.self = d.self := by rw [he]
  by_cases hw : d.c.gr ≤ d.clock - v
  · obtain ⟨a, b⟩ := bury1_dead e k hk hk7 (hse.trans hs) v ⟨h1.trans h.1, h2.trans h.2⟩ (by rw [hce, hcl]; exact hw)
    exact .inl ⟨hw, h3.trans a, h4.trans b⟩
  · rw [bury1_wait e k v (h2.trans h.2) (by rw [hce, hcl]; exact hw)] at h3 h4
    exact .inr ⟨hw, h3.trans (h1.trans h.1), h4.trans (h2.trans h.2)⟩
end Go.Proofs.YtejihgfigclppaaGreat
namespace Go.Proofs.YtejihgfigclppaaGreat
open Go.RowKit Go.Lib
set_option linter.unusedVariables false
structure Base (n : Nat) (d : Det) : Prop where
  self : d.self = 0
  left : d.left = false
  tout : 1 ≤ d.c.tout
  gr : 1 ≤ d.c.gr
  own : AtA d 0
  out : ∀ k, n < k → k < 8 → d.tab k = none ∧ d.since k = none
  each : ∀ k, 1 ≤ k → k ≤ n → AtA d k ∨ (∃ v, AtS d k v ∧ v ≤ d.clock ∧ d.clock - v < d.c.gr) ∨ AtD d k
def Gone (B : Int) (d : Det) (k : Nat) : Prop := (∃ v, AtS d k v ∧ v ≤ B) ∨ AtD d k
/-- the table, and since when, are as they were, and what else stays in a tick -/
structure SameT (d e : Det) : Prop where
  tab : e.tab = d.tab
  since : e.since = d.since
  self : e.self = d.self
  left : e.left = d.left
  c : e.c = d.c
  clock : e.clock = d.clock
theorem SameT.atA {d e : Det} (h : SameT d e) {k : Nat} (a : AtA d k) : AtA e k := ⟨by rw [h.tab]; exact a.1, by rw [h.since]; exact a.2⟩
theorem SameT.atS {d e : Det} (h : SameT d e) {k : Nat} {v : Int} (a : AtS d k v) : AtS e k v := ⟨by rw [h.tab]; exact a.1, by rw [h.since]; exact a.2⟩
theorem SameT.atD {d e : Det} (h : SameT d e) {k : Nat} (a : AtD d k) : AtD e k := ⟨by rw [h.tab]; exact a.1, by rw [h.since]; exact a.2⟩
theorem SameT.gone {d e : Det} (h : SameT d e) {B : Int} {k : Nat} (a : Gone B d k) : Gone B e k := a.elim (fun ⟨v, x, y⟩ => .inl ⟨v, h.atS x, y⟩) fun x => .inr (h.atD x)
theorem SameT.base {d e : Det} (h : SameT d e) {n : Nat} (b : Base n d) : Base n e where
  self := h.self.trans b.self
  left := h.left.trans b.left
  tout := by rw [h.c]; exact b.tout
  gr := by rw [h.c]; exact b.gr
  own := h.atA b.own
  out := fun k h1 h2 => by rw [h.tab, h.since]; exact b.out k h1 h2
  each := fun k h1 h2 => (b.each k h1 h2).elim (fun x => .inl (h.atA x)) fun x => .inr (x.elim (fun ⟨v, y, z, u⟩ => .inl ⟨v, h.atS y, by rw [h.clock]; exact z, by rw [h.clock, h.c]; exact u⟩) fun y => .inr (h.atD y))
theorem SameT.trans {a b c : Det} (h : SameT a b) (k : SameT b c) : SameT a c := ⟨k.tab.trans h.tab, k.since.trans h.since, k.self.trans h.self, k.left.trans h.left, k.c.trans h.c, k.clock.trans h.clock⟩
theorem SameT.refl (d : Det) : SameT d d := ⟨rfl, rfl, rfl, rfl, rfl, rfl⟩
/-- ahead of giving up: the clock, burying, asking around -/
def Det.pre (d : Det) : Det := (Det.bury { d with clock := d.clock + 1 }).around.1
theorem tick_is {d : Det} (h : d.left = false) : d.tick.1 = d.pre.give.begin.1 := by unfold Det.tick; rw [if_neg (by rw [h]; decide)]; rfl
theorem pre_keeps (d : Det) : d.pre.pr = d.pr ∧ d.pre.began = d.began ∧ d.pre.ws = d.ws ∧ d.pre.clock = d.clock + 1 ∧ d.pre.c = d.c ∧ d.pre.self = d.self ∧ d.pre.left = d.left ∧ d.pre.num = d.num := by
  have h : ∃ t f, Det.bury { d with clock := d.clock + 1 } = { d with clock := d.clock + 1, tab := t, since := f } := by
    obtain ⟨t, f, e⟩ := like_buryTo { d with clock := d.clock + 1 } 8
    exact ⟨t, f, e⟩
  obtain ⟨t, f, h⟩ := h
  unfold Det.pre
  rw [h]
  unfold Det.around
  split
  · exact ⟨rfl, rfl, rfl, rfl, rfl, rfl, rfl, rfl⟩
  · split <;> exact ⟨rfl, rfl, rfl, rfl, rfl, rfl, rfl, rfl⟩
theorem around_tab (d : Det) : d.around.1.tab = d.tab ∧ d.around.1.since = d.since := by
  unfold Det.around
  split
  · exact ⟨rfl, rfl⟩
  · split <;> exact ⟨rfl, rfl⟩
theorem pre_A {d : Det} {k : Nat} (hk : k < 8) (h : AtA d k) : AtA d.pre k := by
  obtain ⟨a, b⟩ := bury_none { d with clock := d.clock + 1 } k hk h.2
  obtain ⟨t, s⟩ := around_tab (Det.bury { d with clock := d.clock + 1 })
  unfold Det.pre
  exact ⟨by rw [t]; exact a.trans h.1, by rw [s]; exact b⟩
theorem pre_D {d : Det} {k : Nat} (hk : k < 8) (h : AtD d k) : AtD d.pre k := by
  obtain ⟨a, b⟩ := bury_none { d with clock := d.clock + 1 } k hk h.2
  obtain ⟨t, s⟩ := around_tab (Det.bury { d with clock := d.clock + 1 })
  unfold Det.pre
  exact ⟨by rw [t]; exact a.trans h.1, by rw [s]; exact b⟩
theorem pre_S {d : Det} {k : Nat} (hk : 1 ≤ k) (hk7 : k ≤ 7) (hs : d.self = 0) {v : Int} (h : AtS d k v) : AtD d.pre k ∨ (AtS d.pre k v ∧ d.clock + 1 - v < d.c.gr) := by
  obtain ⟨t, s⟩ := around_tab (Det.bury { d with clock := d.clock + 1 })
  rcases bury_susp { d with clock := d.clock + 1 } k hk hk7 hs v h with ⟨_, a⟩ | ⟨hw, a⟩
  · left
    unfold Det.pre
    exact ⟨by rw [t]; exact a.1, by rw [s]; exact a.2⟩
  · right
    unfold Det.pre
    refine ⟨⟨by rw [t]; exact a.1, by rw [s]; exact a.2⟩, ?_⟩
    have hw' : ¬ d.c.gr ≤ d.clock + 1 - v := hw
    omega
theorem pre_gone {d : Det} {k : Nat} (hk : 1 ≤ k) (hk7 : k ≤ 7) (hs : d.self = 0) {B : Int} (h : Gone B d k) : Gone B d.pre k := by
  rcases h with ⟨v, h1, h2⟩ | h
  · rcases pre_S hk hk7 hs h1 with h | ⟨h, _⟩
    · exact .inr h
    · exact .inl ⟨v, h, h2⟩
  · exact .inr (pre_D (by omega) h)
theorem pre_base {n : Nat} (hn : n ≤ 7) {d : Det} (h : Base n d) : Base n d.pre := by
  obtain ⟨_, _, _, p4, p5, p6, p7, _⟩ := pre_keeps d
  refine ⟨p6.trans h.self, p7.trans h.left, by rw [p5]; exact h.tout, by rw [p5]; exact h.gr, pre_A (by omega) h.own, fun k h1 h2 => ?_, fun k h1 h2 => ?_⟩
  · obtain ⟨a, b⟩ := h.out k h1 h2
    obtain ⟨e, f⟩ := bury_none { d with clock := d.clock + 1 } k h2 b
    obtain ⟨t, s⟩ := around_tab (Det.bury { d with clock := d.clock + 1 })
    unfold Det.pre
    exact ⟨by rw [t]; exact e.trans a, by rw [s]; exact f⟩
  · rcases h.each k h1 h2 with x | ⟨v, x, y, z⟩ | x
    · exact .inl (pre_A (by omega) x)
    · rcases pre_S h1 (by omega) h.self x with u | ⟨u, t⟩
      · exact .inr (.inr u)
      · exact .inr (.inl ⟨v, u, by rw [p4]; omega, by rw [p4, p5]; exact t⟩)
    · exact .inr (.inr (pre_D (by omega) x))
theorem begin_sameT (d : Det) : SameT d d.begin.1 := by
  unfold Det.begin
  split
  · exact .refl _
  · split
    · exact .refl _
    · exact ⟨rfl, rfl, rfl, rfl, rfl, rfl⟩
/-- who lives, is told of by others' list -/
theorem others_alive {n : Nat} {d : Det} (h : Base n d) {k : Nat} (h1 : 1 ≤ k) (h7 : k ≤ 7) (ha : AtA d k) : (k : Int) ∈ othersT d.self d.tab :=
  (mem_othersT _ _ _).2 ⟨by rw [h.self]; omega, k, by omega, rfl, _, ha.1, rfl⟩
structure Round (n : Nat) (L : List Int) (i : Nat) (d : Det) : Prop where
  lo : 1 ≤ i
  hi : i ≤ L.length
  pr : ∃ q, d.pr = some (q, L.getD (i - 1) 0)
  began : d.began = 1 + 2 * d.c.tout * ((i : Int) - 1)
  c1 : d.began ≤ d.clock
  c2 : d.clock < d.began + 2 * d.c.tout
  ws : d.ws = L.drop i
  alive : ∀ k : Nat, 1 ≤ k → k ≤ n → (k : Int) ∈ L.drop (i - 1) → AtA d k
  gone : ∀ k : Nat, 1 ≤ k → k ≤ n → (k : Int) ∈ L.take (i - 1) → Gone (1 + 2 * d.c.tout * (L.length : Int)) d k
/-- the first round's list -/
structure First (n : Nat) (L : List Int) : Prop where
  nd : L.Nodup
  mem : ∀ x, x ∈ L ↔ ∃ k : Nat, x = (k : Int) ∧ 1 ≤ k ∧ k ≤ n
  len : L.length ≤ n
theorem give_none {d : Det} (h : d.pr = none) : d.give = d := by unfold Det.give; rw [h]
theorem give_wait {d : Det} {p : Int × Int} (h : d.pr = some p) (ht : d.clock - d.began < 2 * d.c.tout) : d.give = d := by unfold Det.give; rw [h]; exact if_pos ht
theorem give_alive {d : Det} {q : Int} {k : Nat} (h : d.pr = some (q, (k : Int))) (ht : ¬ d.clock - d.began < 2 * d.c.tout) (ha : AtA d k) : d.give = { d.say k 2 with pr := none } := by
  unfold Det.give
  rw [h]
  simp only [if_neg ht, Int.toNat_natCast, ha.1]
  rfl
theorem give_else {d : Det} {p : Int × Int} (h : d.pr = some p) (ha : ∀ w, d.tab p.2.toNat = some w → w.st ≠ 1) : SameT d d.give := by
  unfold Det.give
  rw [h]
  dsimp only
  split
  · exact .refl _
  · split
    · rename_i w hw
      rw [if_neg (ha w hw)]
      exact ⟨rfl, rfl, rfl, rfl, rfl, rfl⟩
    · exact ⟨rfl, rfl, rfl, rfl, rfl, rfl⟩
end Go.Proofs.YtejihgfigclppaaGreat
namespace Go.Proofs.YtejihgfigclppaaGreat
open Go.RowKit Go.Lib
set_option linter.unusedVariables false
theorem drop_cons {L : List Int} {i : Nat} (h : i < L.length) : L.drop i = L.getD i 0 :: L.drop (i + 1) := by
  rw [List.drop_eq_getElem_cons h]
  simp [h]
theorem mem_take_or {L : List Int} {i : Nat} {x : Int} (h : x ∈ L) : x ∈ L.take i ∨ x ∈ L.drop i := by
  rw [← List.take_append_drop i L] at h
  exact List.mem_append.1 h
theorem take_next {L : List Int} {i : Nat} (h : i < L.length) {x : Int} (hx : x ∈ L.take (i + 1)) : x ∈ L.take i ∨ x = L.getD i 0 := by
  rw [List.take_add_one] at hx
  rcases List.mem_append.1 hx with a | a
  · exact .inl a
  · right
    simpa [h] using a
/-- what a detector is behind its giving up a probe of one that lives -/
def Det.gave (d : Det) (k : Nat) : Det := { d.say k 2 with pr := none }
theorem gave_keeps (d : Det) (k : Nat) : (d.gave k).pr = none ∧ (d.gave k).began = d.began ∧ (d.gave k).ws = d.ws ∧ (d.gave k).clock = d.clock ∧ (d.gave k).c = d.c ∧ (d.gave k).self = d.self ∧ (d.gave k).left = d.left := by
  obtain ⟨t, f, h⟩ := like_say d k 2
  unfold Det.gave
  rw [h]
  exact ⟨rfl, rfl, rfl, rfl, rfl, rfl, rfl⟩
theorem gave_at (d : Det) (k : Nat) (hk : 1 ≤ k) (hk7 : k ≤ 7) (hs : d.self = 0) (h : AtA d k) : AtS (d.gave k) k d.clock := by
  obtain ⟨a, b⟩ := say_at d k hk hk7 hs 1 2 h.1 (by decide) (by decide) (by decide)
  exact ⟨a, b⟩
theorem gave_else (d : Det) (j k : Nat) (h : k ≠ j) : (d.gave j).tab k = d.tab k ∧ (d.gave j).since k = d.since k := say_else d j k 2 h
theorem gave_A {d : Det} {j k : Nat} (h : k ≠ j) (a : AtA d k) : AtA (d.gave j) k := by
  obtain ⟨x, y⟩ := gave_else d j k h
  exact ⟨x.trans a.1, y.trans a.2⟩
theorem gave_gone {d : Det} {j k : Nat} (h : k ≠ j) {B : Int} (a : Gone B d k) : Gone B (d.gave j) k := by
  obtain ⟨x, y⟩ := gave_else d j k h
  rcases a with ⟨v, a, b⟩ | a
  · exact .inl ⟨v, ⟨x.trans a.1, y.trans a.2⟩, b⟩
  · exact .inr ⟨x.trans a.1, y.trans a.2⟩
theorem gave_base {n : Nat} (hn : n ≤ 7) {d : Det} (h : Base n d) {j : Nat} (hj : 1 ≤ j) (hj7 : j ≤ n) (ha : AtA d j) : Base n (d.gave j) := by
  obtain ⟨_, _, _, p4, p5, p6, p7⟩ := gave_keeps d j
  refine ⟨p6.trans h.self, p7.trans h.left, by rw [p5]; exact h.tout, by rw [p5]; exact h.gr, gave_A (by omega) h.own, fun k h1 h2 => ?_, fun k h1 h2 => ?_⟩
  · obtain ⟨a, b⟩ := h.out k h1 h2
    obtain ⟨x, y⟩ := gave_else d j k (by omega)
    exact ⟨x.trans a, y.trans b⟩
  · by_cases e : k = j
    · subst e
      refine .inr (.inl ⟨d.clock, gave_at d k h1 (by omega) h.self ha, by rw [p4]; exact Int.le_refl _, ?_⟩)
      rw [p4, p5]
      have := h.gr
      omega
    · obtain ⟨x, y⟩ := gave_else d j k e
      rcases h.each k h1 h2 with a | ⟨v, a, b, c⟩ | a
      · exact .inl ⟨x.trans a.1, y.trans a.2⟩
      · exact .inr (.inl ⟨v, ⟨x.trans a.1, y.trans a.2⟩, by rw [p4]; exact b, by rw [p4, p5]; exact c⟩)
      · exact .inr (.inr ⟨x.trans a.1, y.trans a.2⟩)
def AllGone (n : Nat) (B : Int) (d : Det) : Prop := ∀ k, 1 ≤ k → k ≤ n → Gone B d k
theorem begin_some {d : Det} {p : Int × Int} (h : d.pr = some p) : d.begin.1 = d := by unfold Det.begin; rw [h]
theorem begin_none {d : Det} (h : d.pr = none) (hn : othersT d.self d.tab ≠ []) : d.begin.1 = { d with s := (nextL d.s d.ws (othersT d.self d.tab)).1, ws := (nextL d.s d.ws (othersT d.self d.tab)).2.tail, num := d.num + 1, pr := some (d.num + 1, (nextL d.s d.ws (othersT d.self d.tab)).2.headD 0), began := d.clock } := by
  unfold Det.begin
  rw [h]
  dsimp only
  rw [if_neg hn]
theorem nextL_stays {s : Int} {ws nodes : List Int} (h : ∀ x ∈ ws, x ∈ nodes) (hne : ws ≠ []) : nextL s ws nodes = (s, ws) := by
  have e : ws.filter (fun x => !goneL nodes x) = ws := List.filter_eq_self.2 fun x hx => by simp [goneL, h x hx]
  unfold nextL
  rw [e, if_neg hne]
theorem nextL_empty (s : Int) (nodes : List Int) : nextL s [] nodes = shufL s (onceL nodes) := by
  unfold nextL
  rw [List.filter_nil, if_pos rfl]
/-- one tick within a round -/
theorem round_tick {n : Nat} (hn : n ≤ 7) {L : List Int} (hF : First n L) {i : Nat} {d : Det} (hb : Base n d) (h : Round n L i d) :
    Base n d.tick.1 ∧ ((∃ j, Round n L j d.tick.1) ∨ AllGone n (1 + 2 * d.c.tout * (L.length : Int)) d.tick.1) := by
  obtain ⟨p1, p2, p3, p4, p5, p6, p7, p8⟩ := pre_keeps d
  have hB := pre_base hn hb
  obtain ⟨q, hq⟩ := h.pr
  have hlo := h.lo
  have hhi := h.hi
  have hc1 := h.c1
  have hc2 := h.c2
  rw [tick_is hb.left]
  have hil : i - 1 < L.length := by omega
  have hdr := drop_cons hil
  rw [show i - 1 + 1 = i by omega] at hdr
  have hmem : L.getD (i - 1) 0 ∈ L := by
    have : L.getD (i - 1) 0 ∈ L.drop (i - 1) := by rw [hdr]; exact List.mem_cons_self ..
    exact List.mem_of_mem_drop this
  obtain ⟨k, hk, hk1, hkn⟩ := (hF.mem _).1 hmem
  have haL : ∀ k : Nat, 1 ≤ k → k ≤ n → (k : Int) ∈ L.drop (i - 1) → AtA d.pre k := fun j h1 h2 hm => pre_A (by omega) (h.alive j h1 h2 hm)
  have hgL : ∀ k : Nat, 1 ≤ k → k ≤ n → (k : Int) ∈ L.take (i - 1) → Gone (1 + 2 * d.c.tout * (L.length : Int)) d.pre k := fun j h1 h2 hm => pre_gone h1 (by omega) hb.self (h.gone j h1 h2 hm)
  rw [hk] at hq
  by_cases hw : d.clock + 1 < d.began + 2 * d.c.tout
  · have hg : d.pre.give = d.pre := give_wait (p1.trans hq) (by rw [p4, p2, p5]; omega)
    rw [hg, begin_some (p1.trans hq)]
    refine ⟨hB, .inl ⟨i, hlo, hhi, ⟨q, by rw [p1, hk]; exact hq⟩, by rw [p2, p5]; exact h.began, by rw [p2, p4]; omega, by rw [p2, p4, p5]; exact hw, by rw [p3]; exact h.ws, haL, by rw [p5]; exact hgL⟩⟩
  · have hak : AtA d.pre k := haL k hk1 hkn (by rw [hdr, hk]; exact List.mem_cons_self ..)
    have hg : d.pre.give = d.pre.gave k := give_alive (p1.trans hq) (by rw [p4, p2, p5]; omega) hak
    obtain ⟨g1, g2, g3, g4, g5, g6, g7⟩ := gave_keeps d.pre k
    have hGB := gave_base hn hB hk1 hkn hak
    have hclk : d.clock + 1 = 1 + 2 * d.c.tout * (i : Int) := by
      have e1 := h.began
      have e2 : 2 * d.c.tout * ((i : Int) - 1) = 2 * d.c.tout * (i : Int) - 2 * d.c.tout := by rw [Int.mul_sub, Int.mul_one]
      omega
    have hle : 2 * d.c.tout * (i : Int) ≤ 2 * d.c.tout * (L.length : Int) := Int.mul_le_mul_of_nonneg_left (by omega) (by have := hb.tout; omega)
    have hks : AtS (d.pre.gave k) k d.pre.clock := gave_at d.pre k hk1 (by omega) hB.self hak
    have hkg : Gone (1 + 2 * d.c.tout * (L.length : Int)) (d.pre.gave k) k := .inl ⟨_, hks, by rw [p4]; omega⟩
    have hgT : ∀ j : Nat, 1 ≤ j → j ≤ n → (j : Int) ∈ L.take i → Gone (1 + 2 * d.c.tout * (L.length : Int)) (d.pre.gave k) j := by
      intro j h1 h2 hm
      by_cases e : j = k
      · rw [e]; exact hkg
      · rw [show i = i - 1 + 1 by omega] at hm
        rcases take_next hil hm with a | a
        · exact gave_gone e (hgL j h1 h2 a)
        · exact absurd (by omega : j = k) e
    rw [hg]
    refine ⟨(begin_sameT _).base hGB, ?_⟩
    by_cases hi : i = L.length
    · right
      intro j h1 h2
      have hj : (j : Int) ∈ L := (hF.mem _).2 ⟨j, rfl, h1, h2⟩
      rw [← List.take_length (l := L), ← hi] at hj
      exact (begin_sameT _).gone (hgT j h1 h2 hj)
    · have hi' : i < L.length := by omega
      have hnd : (k : Int) ∉ L.drop i := by
        have := (List.nodup_cons.1 (by rw [← hdr]; exact hF.nd.sublist (List.drop_sublist _ _) : (L.getD (i - 1) 0 :: L.drop i).Nodup)).1
        rwa [hk] at this
      have haG : ∀ j : Nat, 1 ≤ j → j ≤ n → (j : Int) ∈ L.drop i → AtA (d.pre.gave k) j := by
        intro j h1 h2 hm
        refine gave_A (fun e => hnd (by rw [← e]; exact hm)) (haL j h1 h2 ?_)
        rw [hdr]
        exact List.mem_cons_of_mem _ hm
      have hsub : ∀ x ∈ (d.pre.gave k).ws, x ∈ othersT (d.pre.gave k).self (d.pre.gave k).tab := by
        intro x hx
        rw [g3, p3, h.ws] at hx
        obtain ⟨j, rfl, h1, h2⟩ := (hF.mem x).1 (List.mem_of_mem_drop hx)
        exact others_alive hGB h1 (by omega) (haG j h1 h2 hx)
      have hwsE : (d.pre.gave k).ws = L.getD i 0 :: L.drop (i + 1) := by rw [g3, p3, h.ws]; exact drop_cons hi'
      have hwsne : (d.pre.gave k).ws ≠ [] := by rw [hwsE]; exact List.cons_ne_nil _ _
      have hone : othersT (d.pre.gave k).self (d.pre.gave k).tab ≠ [] := by
        intro e
        have := hsub (L.getD i 0) (by rw [hwsE]; exact List.mem_cons_self ..)
        rw [e] at this
        cases this
      left
      rw [begin_none g1 hone, nextL_stays hsub hwsne, hwsE]
      refine ⟨i + 1, by omega, by omega, ⟨_, by rw [show i + 1 - 1 = i by omega]; rfl⟩, ?_, ?_, ?_, rfl, ?_, ?_⟩
      · show (d.pre.gave k).clock = 1 + 2 * (d.pre.gave k).c.tout * (((i + 1 : Nat) : Int) - 1)
        rw [g4, g5, p4, p5, hclk]
        congr 2
        omega
      · exact Int.le_refl _
      · show (d.pre.gave k).clock < (d.pre.gave k).clock + 2 * (d.pre.gave k).c.tout
        rw [g5, p5]
        have := hb.tout
        omega
      · intro j h1 h2 hm
        rw [show i + 1 - 1 = i by omega] at hm
        exact haG j h1 h2 hm
      · intro j h1 h2 hm
        rw [show i + 1 - 1 = i by omega] at hm
        show Gone (1 + 2 * (d.pre.gave k).c.tout * (L.length : Int)) _ j
        rw [g5, p5]
        exact hgT j h1 h2 hm
/-- once all are gone, they stay so -/
theorem gone_tick {n : Nat} (hn : n ≤ 7) {d : Det} (hok : DetOk d) (hb : Base n d) {B : Int} (h : AllGone n B d) : Base n d.tick.1 ∧ AllGone n B d.tick.1 := by
  obtain ⟨p1, p2, p3, p4, p5, p6, p7, p8⟩ := pre_keeps d
  have hB := pre_base hn hb
  have hG : AllGone n B d.pre := fun k h1 h2 => pre_gone h1 (by omega) hb.self (h k h1 h2)
  rw [tick_is hb.left]
  have hS : SameT d.pre d.pre.give := by
    cases e : d.pre.pr with
    | none => rw [give_none e]; exact .refl _
    | some p =>
      refine give_else e fun w hw => ?_
      obtain ⟨_, _, h3, h4, h5⟩ := hok.pr p (p1.symm.trans e)
      rw [hb.self] at h5
      by_cases hle : p.2.toNat ≤ n
      · rcases hG p.2.toNat (by omega) hle with ⟨v, a, _⟩ | a
        · rw [a.1] at hw; cases hw; decide
        · rw [a.1] at hw; cases hw; decide
      · have := (hB.out p.2.toNat (by omega) (by omega)).1
        rw [this] at hw
        cases hw
  have hT := hS.trans (begin_sameT _)
  exact ⟨hT.base hB, fun k h1 h2 => hT.gone (hG k h1 h2)⟩
/-- all along -/
def Phase (n : Nat) (L : List Int) (d : Det) : Prop := Base n d ∧ ((∃ j, Round n L j d) ∨ AllGone n (1 + 2 * d.c.tout * (L.length : Int)) d)
theorem tick_c (d : Det) (hn : d.left = false) : d.tick.1.c = d.c := by
  obtain ⟨p1, p2, p3, p4, p5, p6, p7, p8⟩ := pre_keeps d
  rw [tick_is hn, (begin_sameT _).c]
  unfold Det.give
  split
  · exact p5
  · split
    · exact p5
    · split
      · split
        · rw [← p5]; exact (same_say _ _ _).c
        · exact p5
      · exact p5
theorem Phase.tick {n : Nat} (hn : n ≤ 7) {L : List Int} (hF : First n L) {d : Det} (hok : DetOk d) (h : Phase n L d) : Phase n L d.tick.1 := by
  obtain ⟨hb, ⟨j, hr⟩ | hg⟩ := h
  · unfold Phase
    rw [tick_c d hb.left]
    exact round_tick hn hF hb hr
  · unfold Phase
    rw [tick_c d hb.left]
    exact ⟨(gone_tick hn hok hb hg).1, .inr (gone_tick hn hok hb hg).2⟩
theorem Phase.dead {n : Nat} (hn : n ≤ 7) {L : List Int} (hF : First n L) {d : Det} (h : Phase n L d) (hc : 1 + 2 * d.c.tout * (n : Int) + d.c.gr ≤ d.clock) : ∀ k, 1 ≤ k → k ≤ n → AtD d k := by
  obtain ⟨hb, h⟩ := h
  have h1 : 2 * d.c.tout * (L.length : Int) ≤ 2 * d.c.tout * (n : Int) := Int.mul_le_mul_of_nonneg_left (by have := hF.len; omega) (by have := hb.tout; omega)
  have hgr := hb.gr
  rcases h with ⟨j, hr⟩ | hg
  · have e1 := hr.began
    have e2 := hr.c2
    have e4 := hr.hi
    have e3 : 2 * d.c.tout * ((j : Int) - 1) + 2 * d.c.tout ≤ 2 * d.c.tout * (L.length : Int) := by
      have : 2 * d.c.tout * ((j : Int) - 1) + 2 * d.c.tout = 2 * d.c.tout * (j : Int) := by rw [Int.mul_sub, Int.mul_one]; omega
      rw [this]
      exact Int.mul_le_mul_of_nonneg_left (by omega) (by have := hb.tout; omega)
    omega
  · intro k k1 k2
    rcases hg k k1 k2 with ⟨v, a, b⟩ | a
    · rcases hb.each k k1 k2 with x | ⟨u, x, y, z⟩ | x
      · have := a.1.symm.trans x.1
        cases this
      · have := a.2.symm.trans x.2
        cases this
        omega
      · exact x
    · exact a
end Go.Proofs.YtejihgfigclppaaGreat
namespace Go.Proofs.YtejihgfigclppaaGreat
open Go.RowKit Go.Lib
set_option linter.unusedVariables false
/-- words on the first n others -/
def wordsN (n : Nat) : List Mb := (List.range n).map fun i : Nat => ⟨(i : Int) + 1, 1, 0⟩
theorem wordsN_next (n : Nat) : wordsN (n + 1) = wordsN n ++ [(⟨(n : Int) + 1, 1, 0⟩ : Mb)] := by unfold wordsN; rw [List.range_succ, List.map_append]; rfl
theorem wordsN_len (n : Nat) : (wordsN n).length = n := by unfold wordsN; simp
structure Start (n : Nat) (c : DConf) (d : Det) : Prop where
  self : d.self = 0
  inc : d.inc = 0
  left : d.left = false
  c : d.c = c
  clock : d.clock = 0
  num : d.num = 0
  pr : d.pr = none
  ws : d.ws = []
  alive : ∀ k, k ≤ n → AtA d k
  out : ∀ k, n < k → d.tab k = none ∧ d.since k = none
theorem start_new (c : DConf) (seed : Int) : Start 0 c (Det.new 0 0 c seed) :=
  ⟨rfl, rfl, rfl, rfl, rfl, rfl, rfl, rfl, fun k hk => by rw [show k = 0 by omega]; exact ⟨rfl, rfl⟩, fun k hk => ⟨if_neg (by show ¬ k = (0 : Int).toNat; simp; omega), rfl⟩⟩
theorem start_hear {n : Nat} (hn : n < 7) {c : DConf} {d : Det} (h : Start n c d) : Start (n + 1) c (d.hear ⟨(n : Int) + 1, 1, 0⟩) := by
  have e : d.hear ⟨(n : Int) + 1, 1, 0⟩ = { d with tab := updT d.tab (n + 1) ⟨1, 0⟩, since := updI d.since ((n : Int) + 1) none } := by
    have hm : Mb.may ⟨(n : Int) + 1, 1, 0⟩ := ⟨by show (0 : Int) ≤ (n : Int) + 1; omega, by show (n : Int) + 1 ≤ 7; omega, by show (1 : Int) ≤ 1; decide, by show (1 : Int) ≤ 4; decide, Int.le_refl 0, by show (0 : Int) ≤ 1099511627776; decide⟩
    have ht : ((n : Int) + 1).toNat = n + 1 := by omega
    have hnw : newsT d.tab ⟨(n : Int) + 1, 1, 0⟩ = true := by
      unfold newsT
      simp only [ht, (h.out (n + 1) (by omega)).1]
    have hne : ¬ (n : Int) + 1 = d.self := by rw [h.self]; omega
    unfold Det.hear
    rw [if_pos ⟨hm, hnw⟩, if_neg hne]
    simp only [ht]
    rfl
  rw [e]
  have hs : ∀ k : Nat, updI d.since ((n : Int) + 1) none (k : Int) = none ∨ updI d.since ((n : Int) + 1) none (k : Int) = d.since (k : Int) := by
    intro k
    unfold updI
    split
    · exact .inl rfl
    · exact .inr rfl
  refine ⟨h.self, h.inc, h.left, h.c, h.clock, h.num, h.pr, h.ws, fun k hk => ?_, fun k hk => ⟨(updT_other _ _ (by omega)).trans (h.out k (by omega)).1, (hs k).elim id fun e => e.trans (h.out k (by omega)).2⟩⟩
  by_cases hk1 : k = n + 1
  · subst hk1
    refine ⟨updT_same _ _ _, ?_⟩
    rcases hs (n + 1) with e | e
    · exact e
    · exact e.trans (h.out (n + 1) (by omega)).2
  · have ha := h.alive k (by omega)
    exact ⟨(updT_other _ _ hk1).trans ha.1, (hs k).elim id fun e => e.trans ha.2⟩
theorem start_hears (c : DConf) (seed : Int) : ∀ n, n ≤ 7 → Start n c ((Det.new 0 0 c seed).hears (wordsN n))
  | 0, _ => start_new c seed
  | n + 1, h => by
    rw [wordsN_next, show (Det.new 0 0 c seed).hears (wordsN n ++ [(⟨(n : Int) + 1, 1, 0⟩ : Mb)]) = ((Det.new 0 0 c seed).hears (wordsN n)).hear ⟨(n : Int) + 1, 1, 0⟩ from by unfold Det.hears; rw [List.foldl_append]; rfl]
    exact start_hear (by omega) (start_hears c seed n (by omega))
theorem start_contra {n : Nat} {c : DConf} {d : Det} (h : Start n c d) : d.contradict = d := by
  have h0 := (h.alive 0 (Nat.zero_le _)).1
  unfold Det.contradict
  have hs : d.self.toNat = 0 := by rw [h.self]; rfl
  rw [hs, h0]
  exact if_pos (.inr (.inl ⟨rfl, by rw [h.inc]; exact Int.le_refl 0⟩))
theorem start_on (c : DConf) (seed : Int) (n : Nat) (hn : n ≤ 7) : Start n c ((Det.new 0 0 c seed).on ⟨1, 1, 0, 0, 0, wordsN n⟩).1 := by
  have h := start_hears c seed n hn
  unfold Det.on
  dsimp only
  rw [if_pos rfl, start_contra h]
  exact h
theorem Start.base {n : Nat} {c : DConf} {d : Det} (h : Start n c d) (hc : c.right) : Base n d :=
  ⟨h.self, h.left, by rw [h.c]; exact hc.1, by rw [h.c]; exact hc.2.2.2.2.1, h.alive 0 (Nat.zero_le _), fun k h1 _ => h.out k h1, fun k _ h2 => .inl (h.alive k h2)⟩
/-- the first tick begins the first round -/
theorem start_tick {n : Nat} (hn : n ≤ 7) (h1n : 1 ≤ n) {c : DConf} (hc : c.right) {d : Det} (h : Start n c d) : ∃ L, First n L ∧ Phase n L d.tick.1 := by
  obtain ⟨p1, p2, p3, p4, p5, p6, p7, p8⟩ := pre_keeps d
  have hb := h.base hc
  have hB := pre_base hn hb
  have haP : ∀ k, k ≤ n → AtA d.pre k := fun k hk => pre_A (by omega) (h.alive k hk)
  obtain ⟨O, hO⟩ : ∃ O, O = othersT d.pre.self d.pre.tab := ⟨_, rfl⟩
  have hmem : ∀ x, x ∈ O ↔ ∃ k : Nat, x = (k : Int) ∧ 1 ≤ k ∧ k ≤ n := by
    intro x
    rw [hO, mem_othersT, hB.self]
    constructor
    · rintro ⟨h0, k, h1, rfl, w, h2, h3⟩
      refine ⟨k, rfl, by omega, ?_⟩
      by_cases hk : k ≤ n
      · exact hk
      · have := (hB.out k (by omega) h1).1
        rw [this] at h2
        cases h2
    · rintro ⟨k, rfl, h1, h2⟩
      exact ⟨by omega, k, by omega, rfl, _, (haP k h2).1, rfl⟩
  have hOl : O.length ≤ 8 := by rw [hO]; exact othersT_len _ _
  have hone : O ≠ [] := by
    intro e
    have := (hmem 1).2 ⟨1, rfl, by omega, h1n⟩
    rw [e] at this
    cases this
  obtain ⟨L, hL⟩ : ∃ L, L = (shufL d.pre.s (onceL O)).2 := ⟨_, rfl⟩
  have hp : L.Perm (onceL O) := by rw [hL]; exact shufL_perm _ _ (by have := onceL_len O; omega)
  have hLm : ∀ x, x ∈ L ↔ ∃ k : Nat, x = (k : Int) ∧ 1 ≤ k ∧ k ≤ n := fun x => (hp.mem_iff.trans ((onceL_is O).2 x)).trans (hmem x)
  have hnd : L.Nodup := hp.nodup_iff.2 (onceL_nodup O)
  have hon : (List.range n).map (fun i : Nat => (i : Int) + 1) = onceL O := by
    refine onceL_eq ?_ fun x => ?_
    · unfold Rises
      rw [List.pairwise_map]
      exact List.pairwise_lt_range.imp fun h => by omega
    · rw [hmem, List.mem_map]
      constructor
      · rintro ⟨a, ha, rfl⟩
        have := List.mem_range.1 ha
        exact ⟨a + 1, by omega, by omega, by omega⟩
      · rintro ⟨k, rfl, h1, h2⟩
        exact ⟨k - 1, List.mem_range.2 (by omega), by omega⟩
  have hlen : L.length ≤ n := by
    rw [hp.length_eq, ← hon, List.length_map, List.length_range]
    exact Nat.le_refl _
  have hF : First n L := ⟨hnd, hLm, hlen⟩
  have hLne : L ≠ [] := by
    intro e
    have := (hLm 1).2 ⟨1, rfl, by omega, h1n⟩
    rw [e] at this
    cases this
  have hl1 : 0 < L.length := List.length_pos_iff.2 hLne
  refine ⟨L, hF, ?_⟩
  have hpr : d.pre.pr = none := p1.trans h.pr
  rw [tick_is h.left, give_none hpr]
  refine ⟨(begin_sameT _).base hB, .inl ⟨1, ?_⟩⟩
  have hne : nextL d.pre.s d.pre.ws (othersT d.pre.self d.pre.tab) = shufL d.pre.s (onceL O) := by rw [← hO, p3, h.ws, nextL_empty]
  rw [begin_none hpr (by rw [← hO]; exact hone), hne, ← hL]
  have hd0 := drop_cons hl1
  rw [List.drop_zero] at hd0
  have hclk : d.pre.clock = 1 := by rw [p4, h.clock]; rfl
  refine ⟨Nat.le_refl _, hl1, ⟨_, by rw [show (1 : Nat) - 1 = 0 from rfl, hd0]; rfl⟩, ?_, Int.le_refl _, ?_, ?_, ?_, fun k _ _ hm => nomatch hm⟩
  · show d.pre.clock = 1 + 2 * d.pre.c.tout * (((1 : Nat) : Int) - 1)
    rw [hclk]
    simp
  · show d.pre.clock < d.pre.clock + 2 * d.pre.c.tout
    have := hB.tout
    omega
  · show L.tail = L.drop 1
    simp
  · intro k h1 h2 _
    exact haP k h2
def ticks : Nat → Det → Det
  | 0, d => d
  | k + 1, d => (ticks k d).tick.1
theorem tick_clock {d : Det} (h : d.left = false) : d.tick.1.clock = d.clock + 1 := by
  obtain ⟨p1, p2, p3, p4, p5, p6, p7, p8⟩ := pre_keeps d
  rw [tick_is h, (begin_sameT _).clock, (same_give _).clock, p4]
theorem ticks_ok {d : Det} (hok : DetOk d) (hl : d.left = false) (hc : d.clock = 0) (hn : d.num = 0) : ∀ k : Nat, k ≤ 900000 → DetOk (ticks k d) ∧ (ticks k d).left = false ∧ (ticks k d).c = d.c ∧ (ticks k d).clock = k ∧ (ticks k d).num ≤ k
  | 0, _ => ⟨hok, hl, rfl, hc, by rw [show ticks 0 d = d from rfl, hn]; exact Int.le_refl _⟩
  | k + 1, h => by
    obtain ⟨h1, h2, h3, h4, h5⟩ := ticks_ok hok hl hc hn k (by omega)
    obtain ⟨s1, s2, s3, s4, s5, s6, s7⟩ := tick_same (ticks k d)
    exact ⟨h1.tick (by rw [h4]; omega) (by omega), s7.trans h2, s2.trans h3, (tick_clock h2).trans (by rw [h4]; omega), by show (ticks k d).tick.1.num ≤ _; omega⟩
theorem ticks_phase {n : Nat} (hn : n ≤ 7) {L : List Int} (hF : First n L) {d : Det} (hok : DetOk d) (hl : d.left = false) (hc : d.clock = 0) (hnm : d.num = 0) (h : Phase n L d.tick.1) : ∀ k : Nat, k ≤ 800000 → Phase n L (ticks (k + 1) d)
  | 0, _ => h
  | k + 1, hk => Phase.tick hn hF (ticks_ok hok hl hc hnm (k + 1) (by omega)).1 (ticks_phase hn hF hok hl hc hnm h k (by omega))
theorem wordsTo_full (t : Tab) : ∀ m, (∀ k, k < m → ∃ w, t k = some w) → (wordsTo t m).length = m
  | 0, _ => rfl
  | m + 1, h => by
    obtain ⟨w, hw⟩ := h m (by omega)
    unfold wordsTo
    rw [hw, List.length_append, wordsTo_full t m fun k hk => h k (by omega)]
    rfl
theorem wordsTo_more (t : Tab) (m : Nat) : ∀ j, (∀ k, m ≤ k → k < m + j → t k = none) → wordsTo t (m + j) = wordsTo t m
  | 0, _ => rfl
  | j + 1, h => by
    rw [show m + (j + 1) = (m + j) + 1 by omega]
    show wordsTo t (m + j) ++ (match t (m + j) with | some w => [(⟨((m + j : Nat) : Int), w.st, w.inc⟩ : Mb)] | none => []) = _
    rw [h (m + j) (by omega) (by omega), wordsTo_more t m j fun k h1 h2 => h k h1 (by omega)]
    exact List.append_nil _
/-- the law's example -/
structure ExF (c : DConf) (n : Nat) (seed : Int) (d0 d1 : Det) : Prop where
  s0 : Det.new 0 0 c seed = d0
  k0 : DetOk d0
  n0 : d0.num < 1000000
  lf0 : d0.left = false
  z0 : d0.self = 0
  s1 : (d0.on ⟨1, 1, 0, 0, 0, wordsN n⟩).1 = d1
  ok : ∀ k : Nat, k ≤ 900000 → DetOk (ticks k d1) ∧ (ticks k d1).clock < 1000000 ∧ (ticks k d1).num < 1000000
  fin : ∀ k : Nat, (k : Int) = 2 * (n : Int) * 2 * c.tout + c.gr + 2 → othersT (ticks k d1).self (ticks k d1).tab = [] ∧ (allT (ticks k d1).tab).length = n + 1 ∧ ∀ m ∈ allT (ticks k d1).tab, m.node ≠ 0 → m.st = 3
theorem exF (c : DConf) (hc : c.right) (n : Nat) (h1n : 1 ≤ n) (hn : n ≤ 7) (seed : Int) : ∃ d0 d1, ExF c n seed d0 d1 := by
  have hok0 : DetOk (Det.new 0 0 c seed) := DetOk.new (by decide) hc
  have hS := start_on c seed n hn
  have hn0 : (Det.new 0 0 c seed).num < 1000000 := by show (0 : Int) < 1000000; decide
  have hok1 : DetOk ((Det.new 0 0 c seed).on ⟨1, 1, 0, 0, 0, wordsN n⟩).1 := hok0.on _ hn0
  refine ⟨_, _, rfl, hok0, hn0, rfl, rfl, rfl, fun k hk => ?_, fun k hk => ?_⟩
  · obtain ⟨h1, h2, h3, h4, h5⟩ := ticks_ok hok1 hS.left hS.clock hS.num k hk
    exact ⟨h1, by rw [h4]; omega, by omega⟩
  · generalize ((Det.new 0 0 c seed).on ⟨1, 1, 0, 0, 0, wordsN n⟩).1 = d at *
    obtain ⟨L, hF, hP⟩ := start_tick hn h1n hc hS
    obtain ⟨c1, c2, _, _, c5, c6⟩ := hc
    have hb0 : 0 ≤ (n : Int) * c.tout := Int.mul_nonneg (by omega) (by omega)
    have hb1 : (n : Int) * c.tout ≤ 7 * 100 := Int.mul_le_mul (by omega) c2 (by omega) (by omega)
    have e1 : 2 * (n : Int) * 2 * c.tout = 4 * ((n : Int) * c.tout) := by rw [show 2 * (n : Int) * 2 = 4 * (n : Int) by omega, Int.mul_assoc]
    have e2 : 2 * c.tout * (n : Int) = 2 * ((n : Int) * c.tout) := by rw [Int.mul_assoc, Int.mul_comm c.tout]
    rw [e1] at hk
    have hk1 : 1 ≤ k := by omega
    have hph := ticks_phase hn hF hok1 hS.left hS.clock hS.num hP (k - 1) (by omega)
    rw [show k - 1 + 1 = k by omega] at hph
    obtain ⟨t1, t2, t3, t4, t5⟩ := ticks_ok hok1 hS.left hS.clock hS.num k (by omega)
    have hdead := hph.dead hn hF (by rw [t3, t4, hS.c, e2]; omega)
    have hB := hph.1
    generalize ticks k d = e at *
    refine ⟨?_, ?_, fun m hm h0 => ?_⟩
    · refine List.eq_nil_iff_forall_not_mem.2 fun x hx => ?_
      obtain ⟨x0, j, j1, rfl, w, j2, j3⟩ := (mem_othersT _ _ _).1 hx
      rw [hB.self] at x0
      by_cases hj : j ≤ n
      · have := (hdead j (by omega) hj).1
        rw [this] at j2
        cases j2
        exact absurd j3 (by decide)
      · rw [(hB.out j (by omega) j1).1] at j2
        cases j2
    · unfold allT
      have := wordsTo_more e.tab (n + 1) (7 - n) fun k h1 h2 => (hB.out k (by omega) (by omega)).1
      rw [show n + 1 + (7 - n) = 8 by omega] at this
      rw [this]
      refine wordsTo_full _ _ fun k hk => ?_
      by_cases hk0 : k = 0
      · rw [hk0]; exact ⟨_, hB.own.1⟩
      · exact ⟨_, (hdead k (by omega) (by omega)).1⟩
    · obtain ⟨j, j1, j2, j3⟩ := (mem_allT _ _).1 hm
      by_cases hj : j ≤ n
      · have := (hdead j (by omega) hj).1
        rw [this] at j3
        have := congrArg Wd.st (Option.some.inj j3)
        exact this.symm
      · rw [(hB.out j (by omega) j1).1] at j3
        cases j3
end Go.Proofs.YtejihgfigclppaaGreat
namespace Go.Proofs.YtejihgfigclppaaGreat
open Go.RowKit Go.Lib
set_option linter.unusedVariables false
def goneMs (n : Nat) : List Mb := ⟨0, 4, 0⟩ :: wordsN n
structure ExL (c : DConf) (n : Nat) (d0 d1 d2 x0 x1 x2 : Det) (out : List Sent) : Prop where
  s0 : Det.new 0 0 c 1 = d0
  t0 : Det.new 1 0 c 2 = x0
  s1 : (d0.on ⟨1, 1, 0, 0, 0, wordsN n⟩).1 = d1
  t1 : (x0.on ⟨1, 0, 1, 0, 0, [⟨0, 1, 0⟩]⟩).1 = x1
  s2 : d1.leave = (d2, out)
  s3 : d2.tick = (d2, [])
  t2 : (x1.on ⟨1, 0, 1, 0, 0, goneMs n⟩).1 = x2
  out : out = (List.range n).map fun i : Nat => (⟨1, 0, (i : Int) + 1, 0, 0, goneMs n⟩ : Sent)
  live : ∃ l, liveT x2.tab = 1 :: l
  kd0 : DetOk d0
  kd1 : DetOk d1
  kd2 : DetOk d2
  kx0 : DetOk x0
  kx1 : DetOk x1
  nd0 : d0.num < 1000000
  nd1 : d1.num < 1000000 ∧ d1.clock < 1000000
  nd2 : d2.num < 1000000 ∧ d2.clock < 1000000
  nx0 : x0.num < 1000000
  nx1 : x1.num < 1000000
  ld0 : d0.left = false
  ld1 : d1.left = false
  ld2 : d2.left = true
  lx0 : x0.left = false
  lx1 : x1.left = false
  zd0 : d0.self = 0
  zd2 : d2.self = 0
  zx0 : x0.self = 1
  zx1 : x1.self = 1
theorem contra_none {d : Det} {w : Wd} (h : d.tab d.self.toNat = some w) (h1 : w.st = 1) (h2 : w.inc ≤ d.inc) : d.contradict = d := by
  unfold Det.contradict
  rw [h]
  exact if_pos (.inr (.inl ⟨h1, h2⟩))
theorem range_map_next (n : Nat) : (List.range (n + 1)).map (fun i : Nat => (i : Int) + 1) = (List.range n).map (fun i : Nat => (i : Int) + 1) ++ [(n : Int) + 1] := by rw [List.range_succ, List.map_append]; rfl
/-- a table in which 0 has left, and the next n live -/
structure LeftTab (n : Nat) (t : Tab) : Prop where
  own : t 0 = some ⟨4, 0⟩
  at_ : ∀ k, 1 ≤ k → k ≤ n → t k = some ⟨1, 0⟩
  out : ∀ k, n < k → t k = none
theorem LeftTab.words {n : Nat} {t : Tab} (h : LeftTab n t) : ∀ m, m ≤ n → wordsTo t (m + 1) = ⟨0, 4, 0⟩ :: wordsN m
  | 0, _ => by unfold wordsTo; rw [h.own]; rfl
  | m + 1, hm => by
    have ih := h.words m (by omega)
    show wordsTo t (m + 1) ++ (match t (m + 1) with | some w => [(⟨((m + 1 : Nat) : Int), w.st, w.inc⟩ : Mb)] | none => []) = _
    rw [ih, h.at_ (m + 1) (by omega) hm, wordsN_next]
    rfl
theorem LeftTab.all {n : Nat} (hn : n ≤ 7) {t : Tab} (h : LeftTab n t) : allT t = goneMs n := by
  unfold allT
  have := wordsTo_more t (n + 1) (7 - n) fun k h1 _ => h.out k (by omega)
  rw [show n + 1 + (7 - n) = 8 by omega] at this
  rw [this]
  exact h.words n (Nat.le_refl _)
theorem LeftTab.live {n : Nat} {t : Tab} (h : LeftTab n t) : ∀ m, m ≤ n → liveTo t (m + 1) = (List.range m).map fun i : Nat => (i : Int) + 1
  | 0, _ => by unfold liveTo; rw [h.own]; rfl
  | m + 1, hm => by
    have ih := h.live m (by omega)
    show liveTo t (m + 1) ++ (match t (m + 1) with | some w => if w.there = true then [((m + 1 : Nat) : Int)] else [] | none => []) = _
    rw [ih, h.at_ (m + 1) (by omega) hm, range_map_next]
    rfl
theorem liveTo_more (t : Tab) (m : Nat) : ∀ j, (∀ k, m ≤ k → k < m + j → t k = none) → liveTo t (m + j) = liveTo t m
  | 0, _ => rfl
  | j + 1, h => by
    show liveTo t (m + j) ++ (match t (m + j) with | some w => if w.there = true then [((m + j : Nat) : Int)] else [] | none => []) = _
    rw [h (m + j) (by omega) (by omega), liveTo_more t m j fun k h1 h2 => h k h1 (by omega)]
    exact List.append_nil _
theorem LeftTab.others {n : Nat} (hn : n ≤ 7) {t : Tab} (h : LeftTab n t) : othersT 0 t = (List.range n).map fun i : Nat => (i : Int) + 1 := by
  unfold othersT liveT
  have := liveTo_more t (n + 1) (7 - n) fun k h1 _ => h.out k (by omega)
  rw [show n + 1 + (7 - n) = 8 by omega] at this
  rw [this, h.live n (Nat.le_refl _)]
  refine List.filter_eq_self.2 fun x hx => ?_
  obtain ⟨i, _, rfl⟩ := List.mem_map.1 hx
  have : ¬ (i : Int) + 1 = 0 := by omega
  simp [this]
theorem leave_start {n : Nat} (hn : n ≤ 7) {c : DConf} {d : Det} (h : Start n c d) : ∃ e : Det, d.leave = (e, (List.range n).map fun i : Nat => (⟨1, 0, (i : Int) + 1, 0, 0, goneMs n⟩ : Sent)) := by
  have h0 := (h.alive 0 (Nat.zero_le _)).1
  have hm : Mb.may ⟨d.self, 4, d.inc⟩ := by rw [h.self, h.inc]; decide
  have hself : d.self.toNat = 0 := by rw [h.self]; rfl
  have hnw : newsT d.tab ⟨d.self, 4, d.inc⟩ = true := by
    unfold newsT
    simp only [hself, h0]
    exact decide_eq_true (.inr ⟨h.inc, by show (1 : Int) < 4; decide⟩)
  have e1 : Det.hear { d with left := true } ⟨d.self, 4, d.inc⟩ = { d with left := true, tab := updT d.tab 0 ⟨4, 0⟩ } := by
    unfold Det.hear
    rw [if_pos ⟨hm, hnw⟩, if_pos rfl]
    simp only [hself, h.inc]
  have hT : LeftTab n (updT d.tab 0 ⟨4, 0⟩) := ⟨updT_same _ _ _, fun k h1 h2 => (updT_other _ _ (by omega)).trans (h.alive k h2).1, fun k h1 => (updT_other _ _ (by omega)).trans (h.out k h1).1⟩
  refine ⟨{ d with left := true, tab := updT d.tab 0 ⟨4, 0⟩ }, ?_⟩
  unfold Det.leave
  rw [e1]
  dsimp only
  rw [h.self, hT.others hn, List.map_map]
  refine congrArg (Prod.mk _) (List.map_congr_left fun i _ => ?_)
  simp only [Function.comp, Det.send, hT.all hn]
/-- what the other one knows: 0 has left, it lives -/
structure Other (d : Det) : Prop where
  self : d.self = 1
  inc : d.inc = 0
  t0 : d.tab 0 = some ⟨4, 0⟩
  t1 : d.tab 1 = some ⟨1, 0⟩
theorem Other.hear {d : Det} (h : Other d) (i : Nat) : Other (d.hear ⟨(i : Int) + 1, 1, 0⟩) := by
  cases i with
  | zero =>
    have : d.hear ⟨((0 : Nat) : Int) + 1, 1, 0⟩ = d := by
      unfold Det.hear
      rw [if_neg]
      rintro ⟨_, hb⟩
      unfold newsT at hb
      rw [show (((0 : Nat) : Int) + 1).toNat = 1 from rfl, h.t1] at hb
      exact absurd hb (by decide)
    rw [this]
    exact h
  | succ i =>
    have e : ((i + 1 : Nat) : Int) + 1 = ((i + 2 : Nat) : Int) := by omega
    rw [e]
    exact ⟨(hear_self _ _).trans h.self, (hear_inc _ _).trans h.inc, (hear_else d (i + 2) 0 1 0 (by omega)).1.trans h.t0, (hear_else d (i + 2) 1 1 0 (by omega)).1.trans h.t1⟩
theorem Other.hears {d : Det} (h : Other d) : ∀ n, Other (d.hears (wordsN n))
  | 0 => h
  | n + 1 => by
    rw [wordsN_next, show d.hears (wordsN n ++ [(⟨(n : Int) + 1, 1, 0⟩ : Mb)]) = (d.hears (wordsN n)).hear ⟨(n : Int) + 1, 1, 0⟩ from by unfold Det.hears; rw [List.foldl_append]; rfl]
    exact (Other.hears h n).hear n
theorem Other.live {d : Det} (h : Other d) : ∃ l, liveT d.tab = 1 :: l := by
  unfold liveT
  simp only [liveTo, h.t0, h.t1]
  exact ⟨_, rfl⟩
def xA (c : DConf) : Det := (Det.new 1 0 c 2).hear ⟨0, 1, 0⟩
theorem xA_is (c : DConf) : (xA c).self = 1 ∧ (xA c).inc = 0 ∧ (xA c).tab 0 = some ⟨1, 0⟩ ∧ (xA c).tab 1 = some ⟨1, 0⟩ := ⟨hear_self _ _, hear_inc _ _, rfl, rfl⟩
theorem xA_on (c : DConf) : ((Det.new 1 0 c 2).on ⟨1, 0, 1, 0, 0, [⟨0, 1, 0⟩]⟩).1 = xA c := by
  obtain ⟨h1, h2, h3, h4⟩ := xA_is c
  show ((xA c).contradict) = _
  exact contra_none (w := ⟨1, 0⟩) (by rw [h1]; exact h4) rfl (by rw [h2]; exact Int.le_refl 0)
theorem xA_gone (c : DConf) : Other ((xA c).hear ⟨0, 4, 0⟩) := by
  obtain ⟨h1, h2, h3, h4⟩ := xA_is c
  refine ⟨(hear_self _ _).trans h1, (hear_inc _ _).trans h2, ?_, ?_⟩
  · have hnw : newsT (xA c).tab ⟨0, 4, 0⟩ = true := by
      unfold newsT
      rw [show (0 : Int).toNat = 0 from rfl, h3]
      decide
    rw [hear_tab]
    unfold hearT
    rw [if_pos ⟨by decide, hnw⟩]
    exact updT_same _ _ _
  · exact (hear_else (xA c) 0 1 4 0 (by decide)).1.trans h4
theorem xA_last (c : DConf) (n : Nat) : Other ((xA c).on ⟨1, 0, 1, 0, 0, goneMs n⟩).1 := by
  have h : Other ((xA c).hears (goneMs n)) := (xA_gone c).hears n
  have hc : ((xA c).hears (goneMs n)).contradict = (xA c).hears (goneMs n) := contra_none (w := ⟨1, 0⟩) (by rw [h.self]; exact h.t1) rfl (by rw [h.inc]; exact Int.le_refl 0)
  have : ((xA c).on ⟨1, 0, 1, 0, 0, goneMs n⟩).1 = ((xA c).hears (goneMs n)).contradict := rfl
  rw [this, hc]
  exact h
theorem exL (c : DConf) (hc : c.right) (n : Nat) (h1n : 1 ≤ n) (hn : n ≤ 7) : ∃ d0 d1 d2 x0 x1 x2 out, ExL c n d0 d1 d2 x0 x1 x2 out := by
  have hS := start_on c 1 n hn
  have kd0 : DetOk (Det.new 0 0 c 1) := DetOk.new (by decide) hc
  have kx0 : DetOk (Det.new 1 0 c 2) := DetOk.new (by decide) hc
  have nd0 : (Det.new 0 0 c 1).num < 1000000 := by show (0 : Int) < 1000000; decide
  have nx0 : (Det.new 1 0 c 2).num < 1000000 := by show (0 : Int) < 1000000; decide
  have kd1 := kd0.on ⟨1, 1, 0, 0, 0, wordsN n⟩ nd0
  have kx1 := kx0.on ⟨1, 0, 1, 0, 0, [⟨0, 1, 0⟩]⟩ nx0
  obtain ⟨x1, x2, x3, x4, x5, x6⟩ := on_same (Det.new 1 0 c 2) ⟨1, 0, 1, 0, 0, [⟨0, 1, 0⟩]⟩
  have hxl : ∃ l, liveT ((((Det.new 1 0 c 2).on ⟨1, 0, 1, 0, 0, [⟨0, 1, 0⟩]⟩).1.on ⟨1, 0, 1, 0, 0, goneMs n⟩).1.tab) = 1 :: l := by rw [xA_on]; exact (xA_last c n).live
  generalize hd1 : ((Det.new 0 0 c 1).on ⟨1, 1, 0, 0, 0, wordsN n⟩).1 = d1 at *
  obtain ⟨e, he⟩ := leave_start hn hS
  have kd2 := kd1.leave
  obtain ⟨l1, l2, l3, l4, l5⟩ := leave_same d1
  rw [he] at kd2 l1 l2 l3 l4 l5
  dsimp only at kd2 l1 l2 l3 l4 l5
  refine ⟨_, d1, e, _, _, _, _, rfl, rfl, hd1, rfl, he, ?_, rfl, rfl, hxl, kd0, kd1, kd2, kx0, kx1, nd0, ?_, ?_, nx0, ?_, rfl, hS.left, l5, rfl, x6, rfl, l1.trans hS.self, rfl, x1⟩
  · unfold Det.tick; rw [if_pos l5]
  · rw [hS.num, hS.clock]; decide
  · rw [l4, l3, hS.num, hS.clock]; decide
  · have h0 : (Det.new 1 0 c 2).num = 0 := rfl
    omega
end Go.Proofs.YtejihgfigclppaaGreat
namespace Go.Proofs.YtejihgfigclppaaGreat
open Go.Shelf Go.RowKit Go.Lib Go.Sort
set_option linter.unusedVariables false
set_option linter.unusedSimpArgs false
set_option maxHeartbeats 4000000 in
theorem intsNe_any (oa ob : Option Addr) (ca cb : Nat) (t : List Int) (w : World) (ha : SlAt icells w (.slice oa (t.length + 1) ca) (1 :: t)) (hb : SlAt icells w (.slice ob 2 cb) [0, 1]) :
    Calls Tryz.prog 23 #[.slice oa (t.length + 1) ca, .slice ob 2 cb] w fun e w' => e = .returned (.bool false) ∧ Below w.heap.size w w' := by
  have HA := Lib.hid ha
  have HB := Lib.hid hb
  generalize htl : t.length = n at *
  clear htl ha hb
  by_cases hn : n = 1
  · subst hn
    obtain ⟨b1, off1, rfl⟩ := HA.out.plain icells_len (by decide) (by simp)
    obtain ⟨b2, off2, rfl⟩ := HB.out.plain icells_len (by decide) (by simp)
    have c1 : w.cell? ⟨b1, off1, none⟩ = some (.int .i64 1) := by
      have := HA.out.cell icells_len (i := 0) (c := 0) (by simp) (by decide)
      simpa [icells] using this
    have c2 : w.cell? ⟨b2, off2, none⟩ = some (.int .i64 0) := by
      have := HB.out.cell icells_len (i := 0) (c := 0) (by simp) (by decide)
      simpa [icells] using this
    clear HA HB
    go_enter Tryz.func23, Tryz.ntmps23
    go_wp2_with fail
    go_loopg [13] 1 (fun gk s13 wr => s13 = .int .i64 0 ∧ wr = w)
    case atStart => exact ⟨rfl, rfl⟩
    case round =>
      obtain ⟨rfl, rfl⟩ := hrel
      go_wp2_with fail
      go_quiet (fail)
      go_wp2_with fail
      go_ret
      exact ⟨rfl, below_drewN _ _⟩
  · have hz : ¬ (n : Int) + 1 = 2 := by omega
    have hzb : ((n : Int) + 1 == 2) = false := by simpa using hz
    clear HA HB
    go_enter Tryz.func23, Tryz.ntmps23
    go_wp2_with fail
    go_ret
    exact ⟨rfl, Below.refl _ _⟩
/-- a step of one detector leaves another one as it is -/
theorem two_kept {M M' N : DM} {x : Det} {w w' : World} (hN : DetAt w N x) (ht : Touch (fun k => k ∈ M.own) w w') (hn : NewM M M' w) (hd : ∀ k ∈ M.own, k ∉ N.own) : DetAt w' N x ∧ ∀ k ∈ M'.own, k ∉ N.own :=
  ⟨hN.keep fun k hk => ht.block k (hN.own_lt k hk) fun hm => hd k hm hk, fun k hk hm => (hn.own k hk).elim (fun h => hd k h hm) fun h => by have := hN.own_lt k hm; omega⟩
/-- a message in a row of messages, loaded whole -/
theorem msg_load {w : World} {g off n cap : Nat} {ps : List PSent} (hs : SlAt scells w (.slice (some ⟨g, off, none⟩) n cap) ps) {i : Nat} (hi : i < ps.length) : Sem.run Tryz.prog (loadCellsFrom ⟨g, off + i * 16, none⟩ 0 16 #[]) w = .ok (scells ps[i]).toArray w := by
  refine run_loadCellsFrom_list Tryz.prog w ⟨g, off + i * 16, none⟩ (scells ps[i]) 16 (scells_len _) fun j v hv => ?_
  rw [Addr.add_lit]
  have hj : j < 16 := by have := (List.getElem?_eq_some_iff.1 hv).1; rwa [scells_len] at this
  have := hs.cell scells_len (i := i) (c := j) hi hj
  rw [show off + i * 16 + j = off + (i * 16 + j) by omega, this, hv]
end Go.Proofs.YtejihgfigclppaaGreat
