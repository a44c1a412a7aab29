/-
  Any message of a detector's kind, handed to a detector; the document's answer on patience.
  A detector to which nobody answers, plainly: within so many ticks all others are dead. No program in sight.
  A detector to which nobody answers, plainly: its ticks, one by one. No program in sight.
-/
import Derived.Test.YtejihgfigclppaaGreatAlive20
import Derived.Test.YtejihgfigclppaaGreatMSwimV
namespace Go.Proofs.YtejihgfigclppaaGreat
open Go.Shelf Go.RowKit Go.Lib Go.Sort
set_option linter.unusedVariables false
set_option linter.unusedSimpArgs false
def Sent.got (s : Sent) : Got := ⟨s.kind, s.frm, s.to_, s.seq, s.node, s.ms⟩
theorem sent_in {w : World} {s : Sent} {hs : Hdr} (h : SlAt Mb.cells w hs.val s.ms) : MsgIn w (s.msg hs) := ⟨SlAt.nil _ _, ⟨SlAt.nil _ _, fun p hp => nomatch hp⟩, h⟩
theorem onSent_any (M : DM) (d : Det) (hok : DetOk d) (hn : d.num < 1000000) (hl : d.left = false) (s : Sent) (hd : Hdr) (hr : (s.msg hd).right) (ht : s.to_ = d.self) (hs : s.ms.length ≤ 1000) (w : World) (hsl : SlAt Mb.cells w hd.val s.ms) (hA : ∀ b, hd.val.ownBlock = some b → b ∉ M.own) (h : DetAt w M d) :
    Calls Tryz.prog 12 #[.pointer (some ⟨M.g, 0, none⟩), .agg #[.int .i64 s.kind, .int .i64 s.frm, .int .i64 s.to_, .int .i64 s.seq, .int .i64 s.node, .int .i64 0, .int .i64 0, .int .i64 0, .int .i64 0, .int .i64 0, .int .i64 0, .int .i64 0, .int .i64 0, .slice none 0 0, .slice none 0 0, hd.val]] w fun e w' =>
      ∃ v, e = .returned (.tuple #[v, .int .i64 0]) ∧ Stepped M (d.on s.got).1 (d.on s.got).2 w v w' := by
  have hb : badOn d (s.msg hd) = false := by
    unfold badOn
    rw [Msg.rightB_true hr, show decide ((s.msg hd).to_ = d.self) = true from decide_eq_true ht]
    rfl
  have hc := on_any M d hok hn (s.msg hd) (Sent.small hs) w (sent_in hsl) hA h
  exact hc.mono fun e w' ⟨_, _, h3⟩ => h3 hb hl
theorem onSent_bad (M : DM) (d : Det) (hok : DetOk d) (hn : d.num < 1000000) (s : Sent) (hd : Hdr) (hr : ¬ (s.msg hd).right) (hs : s.ms.length ≤ 1000) (w : World) (hsl : SlAt Mb.cells w hd.val s.ms) (hA : ∀ b, hd.val.ownBlock = some b → b ∉ M.own) (h : DetAt w M d) :
    Calls Tryz.prog 12 #[.pointer (some ⟨M.g, 0, none⟩), .agg #[.int .i64 s.kind, .int .i64 s.frm, .int .i64 s.to_, .int .i64 s.seq, .int .i64 s.node, .int .i64 0, .int .i64 0, .int .i64 0, .int .i64 0, .int .i64 0, .int .i64 0, .int .i64 0, .int .i64 0, .slice none 0 0, .slice none 0 0, hd.val]] w fun e w' =>
      e = .returned (.tuple #[.slice none 0 0, .int .i64 2]) ∧ Below w.heap.size w w' := by
  have hb : badOn d (s.msg hd) = true := by
    unfold badOn
    rw [Msg.rightB_false hr]
    rfl
  have hc := on_any M d hok hn (s.msg hd) (Sent.small hs) w (sent_in hsl) hA h
  exact hc.mono fun e w' ⟨h1, _, _⟩ => h1 hb
/-- one that has left takes nothing -/
theorem onSent_left (M : DM) (d : Det) (hok : DetOk d) (hn : d.num < 1000000) (hl : d.left = true) (s : Sent) (hd : Hdr) (hr : (s.msg hd).right) (ht : s.to_ = d.self) (hs : s.ms.length ≤ 1000) (w : World) (hsl : SlAt Mb.cells w hd.val s.ms) (hA : ∀ b, hd.val.ownBlock = some b → b ∉ M.own) (h : DetAt w M d) :
    Calls Tryz.prog 12 #[.pointer (some ⟨M.g, 0, none⟩), .agg #[.int .i64 s.kind, .int .i64 s.frm, .int .i64 s.to_, .int .i64 s.seq, .int .i64 s.node, .int .i64 0, .int .i64 0, .int .i64 0, .int .i64 0, .int .i64 0, .int .i64 0, .int .i64 0, .int .i64 0, .slice none 0 0, .slice none 0 0, hd.val]] w fun e w' =>
      e = .returned (.tuple #[.slice none 0 0, .int .i64 16]) ∧ Below w.heap.size w w' := by
  have hb : badOn d (s.msg hd) = false := by
    unfold badOn
    rw [Msg.rightB_true hr, show decide ((s.msg hd).to_ = d.self) = true from decide_eq_true ht]
    rfl
  have hc := on_any M d hok hn (s.msg hd) (Sent.small hs) w (sent_in hsl) hA h
  exact hc.mono fun e w' ⟨_, h2, _⟩ => h2 hb hl
set_option maxHeartbeats 8000000 in
theorem refRight20_any (c : DConf) (w : World) : Calls Tryz.prog 10 #[.agg #[.int .i64 c.tout, .int .i64 c.ind, .int .i64 c.gr]] w fun e w' => e = .returned (.bool (decide c.right)) ∧ Below w.heap.size w w' := by
  obtain ⟨t, i, g⟩ := c
  have HB : Hid (Below w.heap.size w (w.alloc (.cells #[.int .i64 t, .int .i64 i, .int .i64 g] 23))) := (Below.refl _ _).alloc (Nat.le_refl _) _
  by_cases h1 : 1 ≤ t
  · by_cases h2 : t ≤ 100
    · by_cases h3 : 0 ≤ i
      · by_cases h4 : i ≤ 8
        · by_cases h5 : 1 ≤ g
          · by_cases h6 : g ≤ 1000
            · have hr : decide (DConf.right ⟨t, i, g⟩) = true := decide_eq_true ⟨h1, h2, h3, h4, h5, h6⟩
              rw [hr]
              clear hr
              go_enter Tryz.func10, Tryz.ntmps10
              go_wp2_with fail
              go_ret
              exact ⟨rfl, HB.out⟩
            · have hr : decide (DConf.right ⟨t, i, g⟩) = false := decide_eq_false fun h => h6 h.2.2.2.2.2
              rw [hr]
              clear hr
              go_enter Tryz.func10, Tryz.ntmps10
              go_wp2_with fail
              go_ret
              exact ⟨rfl, HB.out⟩
          · have hr : decide (DConf.right ⟨t, i, g⟩) = false := decide_eq_false fun h => h5 h.2.2.2.2.1
            rw [hr]
            clear hr
            go_enter Tryz.func10, Tryz.ntmps10
            go_wp2_with fail
            go_ret
            exact ⟨rfl, HB.out⟩
        · have hr : decide (DConf.right ⟨t, i, g⟩) = false := decide_eq_false fun h => h4 h.2.2.2.1
          rw [hr]
          clear hr
          go_enter Tryz.func10, Tryz.ntmps10
          go_wp2_with fail
          go_ret
          exact ⟨rfl, HB.out⟩
      · have hr : decide (DConf.right ⟨t, i, g⟩) = false := decide_eq_false fun h => h3 h.2.2.1
        rw [hr]
        clear hr
        go_enter Tryz.func10, Tryz.ntmps10
        go_wp2_with fail
        go_ret
        exact ⟨rfl, HB.out⟩
    · have hr : decide (DConf.right ⟨t, i, g⟩) = false := decide_eq_false fun h => h2 h.2.1
      rw [hr]
      clear hr
      go_enter Tryz.func10, Tryz.ntmps10
      go_wp2_with fail
      go_ret
      exact ⟨rfl, HB.out⟩
  · have hr : decide (DConf.right ⟨t, i, g⟩) = false := decide_eq_false fun h => h1 h.1
    rw [hr]
    clear hr
    go_enter Tryz.func10, Tryz.ntmps10
    go_wp2_with fail
    go_ret
    exact ⟨rfl, HB.out⟩
end Go.Proofs.YtejihgfigclppaaGreat
namespace Go.Proofs.YtejihgfigclppaaGreat
open Go.RowKit Go.Lib
set_option linter.unusedVariables false
def AtA (d : Det) (k : Nat) : Prop := d.tab k = some ⟨1, 0⟩ ∧ d.since k = none
def AtS (d : Det) (k : Nat) (v : Int) : Prop := d.tab k = some ⟨2, 0⟩ ∧ d.since k = some v
def AtD (d : Det) (k : Nat) : Prop := d.tab k = some ⟨3, 0⟩ ∧ d.since k = none
/-- only the table, and since when, have turned -/
def Like (d e : Det) : Prop := ∃ t f, e = { d with tab := t, since := f }
theorem Like.refl (d : Det) : Like d d := ⟨d.tab, d.since, rfl⟩
theorem Like.trans {a b c : Det} (h : Like a b) (k : Like b c) : Like a c := by
  obtain ⟨t, f, rfl⟩ := h
  obtain ⟨t', f', rfl⟩ := k
  exact ⟨t', f', rfl⟩
theorem like_hear (d : Det) (m : Mb) : Like d (d.hear m) := by
  unfold Det.hear
  split
  · split
    · exact ⟨_, d.since, rfl⟩
    · exact ⟨_, _, rfl⟩
  · exact .refl _
theorem like_say (d : Det) (n st : Int) : Like d (d.say n st) := by
  unfold Det.say
  split
  · exact like_hear _ _
  · exact .refl _
theorem like_bury1 (d : Det) (n : Nat) : Like d (d.bury1 n) := by
  unfold Det.bury1
  split
  · split
    · exact like_say _ _ _
    · exact .refl _
  · exact .refl _
theorem like_buryTo (d : Det) : ∀ n, Like d (d.buryTo n)
  | 0 => .refl _
  | n + 1 => (like_buryTo d n).trans (like_bury1 _ n)
/-- a word that is heard turns its own node alone -/
theorem hear_else (d : Det) (j k : Nat) (st : Int) (inc : Int) (h : k ≠ j) : (d.hear ⟨j, st, inc⟩).tab k = d.tab k ∧ (d.hear ⟨j, st, inc⟩).since k = d.since k := by
  have h1 : (k : Int) ≠ (j : Int) := by omega
  unfold Det.hear
  split
  · split
    · exact ⟨updT_other _ _ (by simpa using h), rfl⟩
    · refine ⟨updT_other _ _ (by simpa using h), ?_⟩
      show updI d.since (j : Int) _ (k : Int) = _
      unfold updI
      rw [if_neg h1]
  · exact ⟨rfl, rfl⟩
theorem say_else (d : Det) (j k : Nat) (st : Int) (h : k ≠ j) : (d.say j st).tab k = d.tab k ∧ (d.say j st).since k = d.since k := by
  unfold Det.say
  split
  · exact hear_else d j k st _ h
  · exact ⟨rfl, rfl⟩
theorem bury1_else (d : Det) (j k : Nat) (h : k ≠ j) : (d.bury1 j).tab k = d.tab k ∧ (d.bury1 j).since k = d.since k := by
  unfold Det.bury1
  split
  · split
    · exact say_else d j k 3 h
    · exact ⟨rfl, rfl⟩
  · exact ⟨rfl, rfl⟩
/-- a word said of a node that is known, and counts less -/
theorem say_at (d : Det) (k : Nat) (hk : 1 ≤ k) (hk7 : k ≤ 7) (hs : d.self = 0) (st st' : Int) (h : d.tab k = some ⟨st, 0⟩) (hst : st < st') (h2 : 2 ≤ st') (h3 : st' ≤ 4) : (d.say k st').tab k = some ⟨st', 0⟩ ∧ (d.say k st').since k = if st' = 2 then some d.clock else none := by
  have hm : Mb.may ⟨(k : Int), st', 0⟩ := ⟨by show (0 : Int) ≤ k; omega, by show (k : Int) ≤ 7; omega, by show 1 ≤ st'; omega, h3, Int.le_refl 0, by show (0 : Int) ≤ 1099511627776; decide⟩
  have hn : newsT d.tab ⟨(k : Int), st', 0⟩ = true := by
    unfold newsT
    simp only [Int.toNat_natCast, h]
    exact decide_eq_true (.inr ⟨rfl, hst⟩)
  have hne : ¬ (k : Int) = d.self := by rw [hs]; omega
  have e : d.say k st' = { d with tab := updT d.tab k ⟨st', 0⟩, since := updI d.since k (if st' = 2 then some d.clock else none) } := by
    unfold Det.say
    simp only [Int.toNat_natCast, h]
    unfold Det.hear
    rw [if_pos ⟨hm, hn⟩, if_neg hne]
    rfl
  rw [e]
  refine ⟨updT_same _ _ _, ?_⟩
  show updI d.since (k : Int) _ (k : Int) = _
  unfold updI
  rw [if_pos rfl]
theorem bury1_none (d : Det) (k : Nat) (h : d.since k = none) : d.bury1 k = d := by unfold Det.bury1; rw [h]
theorem bury1_wait (d : Det) (k : Nat) (v : Int) (h : d.since k = some v) (hw : ¬ d.c.gr ≤ d.clock - v) : d.bury1 k = d := by unfold Det.bury1; rw [h]; exact if_neg hw
theorem bury1_dead (d : Det) (k : Nat) (hk : 1 ≤ k) (hk7 : k ≤ 7) (hs : d.self = 0) (v : Int) (h : AtS d k v) (hw : d.c.gr ≤ d.clock - v) : AtD (d.bury1 k) k := by
  have e : d.bury1 k = d.say k 3 := by unfold Det.bury1; rw [h.2]; exact if_pos hw
  rw [e]
  obtain ⟨h1, h2⟩ := say_at d k hk hk7 hs 2 3 h.1 (by decide) (by decide) (by decide)
  exact ⟨h1, h2⟩
/-- what burying makes of one node -/
theorem buryTo_at (d : Det) (k : Nat) : ∀ m, (k ≥ m → (d.buryTo m).tab k = d.tab k ∧ (d.buryTo m).since k = d.since k) ∧ (k < m → (d.buryTo m).tab k = ((d.buryTo k).bury1 k).tab k ∧ (d.buryTo m).since k = ((d.buryTo k).bury1 k).since k)
  | 0 => ⟨fun _ => ⟨rfl, rfl⟩, fun h => absurd h (by omega)⟩
  | m + 1 => by
    obtain ⟨h1, h2⟩ := buryTo_at d k m
    refine ⟨fun h => ?_, fun h => ?_⟩
    · obtain ⟨a, b⟩ := h1 (by omega)
      obtain ⟨c, e⟩ := bury1_else (d.buryTo m) m k (by omega)
      exact ⟨c.trans a, e.trans b⟩
    · by_cases hkm : k = m
      · subst hkm; exact ⟨rfl, rfl⟩
      · obtain ⟨a, b⟩ := h2 (by omega)
        obtain ⟨c, e⟩ := bury1_else (d.buryTo m) m k hkm
        exact ⟨c.trans a, e.trans b⟩
theorem bury_at (d : Det) (k : Nat) (hk8 : k < 8) : ∃ e, Like d e ∧ e.tab k = d.tab k ∧ e.since k = d.since k ∧ d.bury.tab k = (e.bury1 k).tab k ∧ d.bury.since k = (e.bury1 k).since k := by
  obtain ⟨a, b⟩ := (buryTo_at d k k).1 (Nat.le_refl _)
  obtain ⟨c, f⟩ := (buryTo_at d k 8).2 hk8
  exact ⟨d.buryTo k, like_buryTo d k, a, b, c, f⟩
theorem bury_none (d : Det) (k : Nat) (hk8 : k < 8) (h : d.since k = none) : d.bury.tab k = d.tab k ∧ d.bury.since k = none := by
  obtain ⟨e, _, h1, h2, h3, h4⟩ := bury_at d k hk8
  rw [bury1_none e k (h2.trans h)] at h3 h4
  exact ⟨h3.trans h1, h4.trans (h2.trans h)⟩
theorem bury_susp (d : Det) (k : Nat) (hk : 1 ≤ k) (hk7 : k ≤ 7) (hs : d.self = 0) (v : Int) (h : AtS d k v) : (d.c.gr ≤ d.clock - v ∧ AtD d.bury k) ∨ (¬ d.c.gr ≤ d.clock - v ∧ AtS d.bury k v) := by
  obtain ⟨e, ⟨t, f, he⟩, h1, h2, h3, h4⟩ := bury_at d k (by omega)
  have hce : e.c = d.c := by rw [he]
  have hcl : e.clock = d.clock := by rw [he]
  have hse : e.self = d.self := by rw [he]
  by_cases hw : d.c.gr ≤ d.clock - v
  · obtain ⟨a, b⟩ := bury1_dead e k hk hk7 (hse.trans hs) v ⟨h1.trans h.1, h2.trans h.2⟩ (by rw [hce, hcl]; exact hw)
    exact .inl ⟨hw, h3.trans a, h4.trans b⟩
  · rw [bury1_wait e k v (h2.trans h.2) (by rw [hce, hcl]; exact hw)] at h3 h4
    exact .inr ⟨hw, h3.trans (h1.trans h.1), h4.trans (h2.trans h.2)⟩
end Go.Proofs.YtejihgfigclppaaGreat
namespace Go.Proofs.YtejihgfigclppaaGreat
open Go.RowKit Go.Lib
set_option linter.unusedVariables false
structure Base (n : Nat) (d : Det) : Prop where
  self : d.self = 0
  left : d.left = false
  tout : 1 ≤ d.c.tout
  gr : 1 ≤ d.c.gr
  own : AtA d 0
  out : ∀ k, n < k → k < 8 → d.tab k = none ∧ d.since k = none
  each : ∀ k, 1 ≤ k → k ≤ n → AtA d k ∨ (∃ v, AtS d k v ∧ v ≤ d.clock ∧ d.clock - v < d.c.gr) ∨ AtD d k
def Gone (B : Int) (d : Det) (k : Nat) : Prop := (∃ v, AtS d k v ∧ v ≤ B) ∨ AtD d k
/-- the table, and since when, are as they were, and what else stays in a tick -/
structure SameT (d e : Det) : Prop where
  tab : e.tab = d.tab
  since : e.since = d.since
  self : e.self = d.self
  left : e.left = d.left
  c : e.c = d.c
  clock : e.clock = d.clock
theorem SameT.atA {d e : Det} (h : SameT d e) {k : Nat} (a : AtA d k) : AtA e k := ⟨by rw [h.tab]; exact a.1, by rw [h.since]; exact a.2⟩
theorem SameT.atS {d e : Det} (h : SameT d e) {k : Nat} {v : Int} (a : AtS d k v) : AtS e k v := ⟨by rw [h.tab]; exact a.1, by rw [h.since]; exact a.2⟩
theorem SameT.atD {d e : Det} (h : SameT d e) {k : Nat} (a : AtD d k) : AtD e k := ⟨by rw [h.tab]; exact a.1, by rw [h.since]; exact a.2⟩
theorem SameT.gone {d e : Det} (h : SameT d e) {B : Int} {k : Nat} (a : Gone B d k) : Gone B e k := a.elim (fun ⟨v, x, y⟩ => .inl ⟨v, h.atS x, y⟩) fun x => .inr (h.atD x)
theorem SameT.base {d e : Det} (h : SameT d e) {n : Nat} (b : Base n d) : Base n e where
  self := h.self.trans b.self
  left := h.left.trans b.left
  tout := by rw [h.c]; exact b.tout
  gr := by rw [h.c]; exact b.gr
  own := h.atA b.own
  out := fun k h1 h2 => by rw [h.tab, h.since]; exact b.out k h1 h2
  each := fun k h1 h2 => (b.each k h1 h2).elim (fun x => .inl (h.atA x)) fun x => .inr (x.elim (fun ⟨v, y, z, u⟩ => .inl ⟨v, h.atS y, by rw [h.clock]; exact z, by rw [h.clock, h.c]; exact u⟩) fun y => .inr (h.atD y))
theorem SameT.trans {a b c : Det} (h : SameT a b) (k : SameT b c) : SameT a c := ⟨k.tab.trans h.tab, k.since.trans h.since, k.self.trans h.self, k.left.trans h.left, k.c.trans h.c, k.clock.trans h.clock⟩
theorem SameT.refl (d : Det) : SameT d d := ⟨rfl, rfl, rfl, rfl, rfl, rfl⟩
/-- ahead of giving up: the clock, burying, asking around -/
def Det.pre (d : Det) : Det := (Det.bury { d with clock := d.clock + 1 }).around.1
theorem tick_is {d : Det} (h : d.left = false) : d.tick.1 = d.pre.give.begin.1 := by unfold Det.tick; rw [if_neg (by rw [h]; decide)]; rfl
theorem pre_keeps (d : Det) : d.pre.pr = d.pr ∧ d.pre.began = d.began ∧ d.pre.ws = d.ws ∧ d.pre.clock = d.clock + 1 ∧ d.pre.c = d.c ∧ d.pre.self = d.self ∧ d.pre.left = d.left ∧ d.pre.num = d.num := by
  have h : ∃ t f, Det.bury { d with clock := d.clock + 1 } = { d with clock := d.clock + 1, tab := t, since := f } := by
    obtain ⟨t, f, e⟩ := like_buryTo { d with clock := d.clock + 1 } 8
    exact ⟨t, f, e⟩
  obtain ⟨t, f, h⟩ := h
  unfold Det.pre
  rw [h]
  unfold Det.around
  split
  · exact ⟨rfl, rfl, rfl, rfl, rfl, rfl, rfl, rfl⟩
  · split <;> exact ⟨rfl, rfl, rfl, rfl, rfl, rfl, rfl, rfl⟩
theorem around_tab (d : Det) : d.around.1.tab = d.tab ∧ d.around.1.since = d.since := by
  unfold Det.around
  split
  · exact ⟨rfl, rfl⟩
  · split <;> exact ⟨rfl, rfl⟩
theorem pre_A {d : Det} {k : Nat} (hk : k < 8) (h : AtA d k) : AtA d.pre k := by
  obtain ⟨a, b⟩ := bury_none { d with clock := d.clock + 1 } k hk h.2
  obtain ⟨t, s⟩ := around_tab (Det.bury { d with clock := d.clock + 1 })
  unfold Det.pre
  exact ⟨by rw [t]; exact a.trans h.1, by rw [s]; exact b⟩
theorem pre_D {d : Det} {k : Nat} (hk : k < 8) (h : AtD d k) : AtD d.pre k := by
  obtain ⟨a, b⟩ := bury_none { d with clock := d.clock + 1 } k hk h.2
  obtain ⟨t, s⟩ := around_tab (Det.bury { d with clock := d.clock + 1 })
  unfold Det.pre
  exact ⟨by rw [t]; exact a.trans h.1, by rw [s]; exact b⟩
theorem pre_S {d : Det} {k : Nat} (hk : 1 ≤ k) (hk7 : k ≤ 7) (hs : d.self = 0) {v : Int} (h : AtS d k v) : AtD d.pre k ∨ (AtS d.pre k v ∧ d.clock + 1 - v < d.c.gr) := by
  obtain ⟨t, s⟩ := around_tab (Det.bury { d with clock := d.clock + 1 })
  rcases bury_susp { d with clock := d.clock + 1 } k hk hk7 hs v h with ⟨_, a⟩ | ⟨hw, a⟩
  · left
    unfold Det.pre
    exact ⟨by rw [t]; exact a.1, by rw [s]; exact a.2⟩
  · right
    unfold Det.pre
    refine ⟨⟨by rw [t]; exact a.1, by rw [s]; exact a.2⟩, ?_⟩
    have hw' : ¬ d.c.gr ≤ d.clock + 1 - v := hw
    omega
theorem pre_gone {d : Det} {k : Nat} (hk : 1 ≤ k) (hk7 : k ≤ 7) (hs : d.self = 0) {B : Int} (h : Gone B d k) : Gone B d.pre k := by
  rcases h with ⟨v, h1, h2⟩ | h
  · rcases pre_S hk hk7 hs h1 with h | ⟨h, _⟩
    · exact .inr h
    · exact .inl ⟨v, h, h2⟩
  · exact .inr (pre_D (by omega) h)
theorem pre_base {n : Nat} (hn : n ≤ 7) {d : Det} (h : Base n d) : Base n d.pre := by
  obtain ⟨_, _, _, p4, p5, p6, p7, _⟩ := pre_keeps d
  refine ⟨p6.trans h.self, p7.trans h.left, by rw [p5]; exact h.tout, by rw [p5]; exact h.gr, pre_A (by omega) h.own, fun k h1 h2 => ?_, fun k h1 h2 => ?_⟩
  · obtain ⟨a, b⟩ := h.out k h1 h2
    obtain ⟨e, f⟩ := bury_none { d with clock := d.clock + 1 } k h2 b
    obtain ⟨t, s⟩ := around_tab (Det.bury { d with clock := d.clock + 1 })
    unfold Det.pre
    exact ⟨by rw [t]; exact e.trans a, by rw [s]; exact f⟩
  · rcases h.each k h1 h2 with x | ⟨v, x, y, z⟩ | x
    · exact .inl (pre_A (by omega) x)
    · rcases pre_S h1 (by omega) h.self x with u | ⟨u, t⟩
      · exact .inr (.inr u)
      · exact .inr (.inl ⟨v, u, by rw [p4]; omega, by rw [p4, p5]; exact t⟩)
    · exact .inr (.inr (pre_D (by omega) x))
theorem begin_sameT (d : Det) : SameT d d.begin.1 := by
  unfold Det.begin
  split
  · exact .refl _
  · split
    · exact .refl _
    · exact ⟨rfl, rfl, rfl, rfl, rfl, rfl⟩
/-- who lives, is told of by others' list -/
theorem others_alive {n : Nat} {d : Det} (h : Base n d) {k : Nat} (h1 : 1 ≤ k) (h7 : k ≤ 7) (ha : AtA d k) : (k : Int) ∈ othersT d.self d.tab :=
  (mem_othersT _ _ _).2 ⟨by rw [h.self]; omega, k, by omega, rfl, _, ha.1, rfl⟩
structure Round (n : Nat) (L : List Int) (i : Nat) (d : Det) : Prop where
  lo : 1 ≤ i
  hi : i ≤ L.length
  pr : ∃ q, d.pr = some (q, L.getD (i - 1) 0)
  began : d.began = 1 + 2 * d.c.tout * ((i : Int) - 1)
  c1 : d.began ≤ d.clock
  c2 : d.clock < d.began + 2 * d.c.tout
  ws : d.ws = L.drop i
  alive : ∀ k : Nat, 1 ≤ k → k ≤ n → (k : Int) ∈ L.drop (i - 1) → AtA d k
  gone : ∀ k : Nat, 1 ≤ k → k ≤ n → (k : Int) ∈ L.take (i - 1) → Gone (1 + 2 * d.c.tout * (L.length : Int)) d k
/-- the first round's list -/
structure First (n : Nat) (L : List Int) : Prop where
  nd : L.Nodup
  mem : ∀ x, x ∈ L ↔ ∃ k : Nat, x = (k : Int) ∧ 1 ≤ k ∧ k ≤ n
  len : L.length ≤ n
theorem give_none {d : Det} (h : d.pr = none) : d.give = d := by unfold Det.give; rw [h]
theorem give_wait {d : Det} {p : Int × Int} (h : d.pr = some p) (ht : d.clock - d.began < 2 * d.c.tout) : d.give = d := by unfold Det.give; rw [h]; exact if_pos ht
theorem give_alive {d : Det} {q : Int} {k : Nat} (h : d.pr = some (q, (k : Int))) (ht : ¬ d.clock - d.began < 2 * d.c.tout) (ha : AtA d k) : d.give = { d.say k 2 with pr := none } := by
  unfold Det.give
  rw [h]
  simp only [if_neg ht, Int.toNat_natCast, ha.1]
  rfl
theorem give_else {d : Det} {p : Int × Int} (h : d.pr = some p) (ha : ∀ w, d.tab p.2.toNat = some w → w.st ≠ 1) : SameT d d.give := by
  unfold Det.give
  rw [h]
  dsimp only
  split
  · exact .refl _
  · split
    · rename_i w hw
      rw [if_neg (ha w hw)]
      exact ⟨rfl, rfl, rfl, rfl, rfl, rfl⟩
    · exact ⟨rfl, rfl, rfl, rfl, rfl, rfl⟩
end Go.Proofs.YtejihgfigclppaaGreat
