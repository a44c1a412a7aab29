/-
  Any message of a detector's kind, handed to a detector; the document's answer on patience.
  One errand, plainly. No program in sight.
-/
import Derived.Test.YtejihgfigclppaaGreatAlive20
namespace Go.Proofs.YtejihgfigclppaaGreat
open Go.Shelf Go.RowKit Go.Lib Go.Sort
set_option linter.unusedVariables false
set_option linter.unusedSimpArgs false
def Sent.got (s : Sent) : Got := ⟨s.kind, s.frm, s.to_, s.seq, s.node, s.ms⟩
theorem sent_in {w : World} {s : Sent} {hs : Hdr} (h : SlAt Mb.cells w hs.val s.ms) : MsgIn w (s.msg hs) := ⟨SlAt.nil _ _, ⟨SlAt.nil _ _, fun p hp => nomatch hp⟩, h⟩
theorem onSent_any (M : DM) (d : Det) (hok : DetOk d) (hn : d.num < 1000000) (hl : d.left = false) (s : Sent) (hd : Hdr) (hr : (s.msg hd).right) (ht : s.to_ = d.self) (hs : s.ms.length ≤ 1000) (w : World) (hsl : SlAt Mb.cells w hd.val s.ms) (hA : ∀ b, hd.val.ownBlock = some b → b ∉ M.own) (h : DetAt w M d) :
    Calls Tryz.prog 12 #[.pointer (some ⟨M.g, 0, none⟩), .agg #[.int .i64 s.kind, .int .i64 s.frm, .int .i64 s.to_, .int .i64 s.seq, .int .i64 s.node, .int .i64 0, .int .i64 0, .int .i64 0, .int .i64 0, .int .i64 0, .int .i64 0, .int .i64 0, .int .i64 0, .slice none 0 0, .slice none 0 0, hd.val]] w fun e w' =>
      ∃ v, e = .returned (.tuple #[v, .int .i64 0]) ∧ Stepped M (d.on s.got).1 (d.on s.got).2 w v w' := by
  have hb : badOn d (s.msg hd) = false := by
    unfold badOn
    rw [Msg.rightB_true hr, show decide ((s.msg hd).to_ = d.self) = true from decide_eq_true ht]
    rfl
  have hc := on_any M d hok hn (s.msg hd) (Sent.small hs) w (sent_in hsl) hA h
  exact hc.mono fun e w' ⟨_, _, h3⟩ => h3 hb hl
theorem onSent_bad (M : DM) (d : Det) (hok : DetOk d) (hn : d.num < 1000000) (s : Sent) (hd : Hdr) (hr : ¬ (s.msg hd).right) (hs : s.ms.length ≤ 1000) (w : World) (hsl : SlAt Mb.cells w hd.val s.ms) (hA : ∀ b, hd.val.ownBlock = some b → b ∉ M.own) (h : DetAt w M d) :
    Calls Tryz.prog 12 #[.pointer (some ⟨M.g, 0, none⟩), .agg #[.int .i64 s.kind, .int .i64 s.frm, .int .i64 s.to_, .int .i64 s.seq, .int .i64 s.node, .int .i64 0, .int .i64 0, .int .i64 0, .int .i64 0, .int .i64 0, .int .i64 0, .int .i64 0, .int .i64 0, .slice none 0 0, .slice none 0 0, hd.val]] w fun e w' =>
      e = .returned (.tuple #[.slice none 0 0, .int .i64 2]) ∧ Below w.heap.size w w' := by
  have hb : badOn d (s.msg hd) = true := by
    unfold badOn
    rw [Msg.rightB_false hr]
    rfl
  have hc := on_any M d hok hn (s.msg hd) (Sent.small hs) w (sent_in hsl) hA h
  exact hc.mono fun e w' ⟨h1, _, _⟩ => h1 hb
/-- one that has left takes nothing -/
theorem onSent_left (M : DM) (d : Det) (hok : DetOk d) (hn : d.num < 1000000) (hl : d.left = true) (s : Sent) (hd : Hdr) (hr : (s.msg hd).right) (ht : s.to_ = d.self) (hs : s.ms.length ≤ 1000) (w : World) (hsl : SlAt Mb.cells w hd.val s.ms) (hA : ∀ b, hd.val.ownBlock = some b → b ∉ M.own) (h : DetAt w M d) :
    Calls Tryz.prog 12 #[.pointer (some ⟨M.g, 0, none⟩), .agg #[.int .i64 s.kind, .int .i64 s.frm, .int .i64 s.to_, .int .i64 s.seq, .int .i64 s.node, .int .i64 0, .int .i64 0, .int .i64 0, .int .i64 0, .int .i64 0, .int .i64 0, .int .i64 0, .int .i64 0, .slice none 0 0, .slice none 0 0, hd.val]] w fun e w' =>
      e = .returned (.tuple #[.slice none 0 0, .int .i64 16]) ∧ Below w.heap.size w w' := by
  have hb : badOn d (s.msg hd) = false := by
    unfold badOn
    rw [Msg.rightB_true hr, show decide ((s.msg hd).to_ = d.self) = true from decide_eq_true ht]
    rfl
  have hc := on_any M d hok hn (s.msg hd) (Sent.small hs) w (sent_in hsl) hA h
  exact hc.mono fun e w' ⟨_, h2, _⟩ => h2 hb hl
set_option maxHeartbeats 8000000 in
theorem refRight20_any (c : DConf) (w : World) : Calls Tryz.prog 10 #[.agg #[.int .i64 c.tout, .int .i64 c.ind, .int .i64 c.gr]] w fun e w' => e = .returned (.bool (decide c.right)) ∧ Below w.heap.size w w' := by
  obtain ⟨t, i, g⟩ := c
  have HB : Hid (Below w.heap.size w (w.alloc (.cells #[.int .i64 t, .int .i64 i, .int .i64 g] 23))) := (Below.refl _ _).alloc (Nat.le_refl _) _
  by_cases h1 : 1 ≤ t
  · by_cases h2 : t ≤ 100
    · by_cases h3 : 0 ≤ i
      · by_cases h4 : i ≤ 8
        · by_cases h5 : 1 ≤ g
          · by_cases h6 : g ≤ 1000
            · have hr : decide (DConf.right ⟨t, i, g⟩) = true := decide_eq_true ⟨h1, h2, h3, h4, h5, h6⟩
              rw [hr]
              clear hr
              go_enter Tryz.func10, Tryz.ntmps10
              go_wp2_with fail
              go_ret
              exact ⟨rfl, HB.out⟩
            · have hr : decide (DConf.right ⟨t, i, g⟩) = false := decide_eq_false fun h => h6 h.2.2.2.2.2
              rw [hr]
              clear hr
              go_enter Tryz.func10, Tryz.ntmps10
              go_wp2_with fail
              go_ret
              exact ⟨rfl, HB.out⟩
          · have hr : decide (DConf.right ⟨t, i, g⟩) = false := decide_eq_false fun h => h5 h.2.2.2.2.1
            rw [hr]
            clear hr
            go_enter Tryz.func10, Tryz.ntmps10
            go_wp2_with fail
            go_ret
            exact ⟨rfl, HB.out⟩
        · have hr : decide (DConf.right ⟨t, i, g⟩) = false := decide_eq_false fun h => h4 h.2.2.2.1
          rw [hr]
          clear hr
          go_enter Tryz.func10, Tryz.ntmps10
          go_wp2_with fail
          go_ret
          exact ⟨rfl, HB.out⟩
      · have hr : decide (DConf.right ⟨t, i, g⟩) = false := decide_eq_false fun h => h3 h.2.2.1
        rw [hr]
        clear hr
        go_enter Tryz.func10, Tryz.ntmps10
        go_wp2_with fail
        go_ret
        exact ⟨rfl, HB.out⟩
    · have hr : decide (DConf.right ⟨t, i, g⟩) = false := decide_eq_false fun h => h2 h.2.1
      rw [hr]
      clear hr
      go_enter Tryz.func10, Tryz.ntmps10
      go_wp2_with fail
      go_ret
      exact ⟨rfl, HB.out⟩
  · have hr : decide (DConf.right ⟨t, i, g⟩) = false := decide_eq_false fun h => h1 h.1
    rw [hr]
    clear hr
    go_enter Tryz.func10, Tryz.ntmps10
    go_wp2_with fail
    go_ret
    exact ⟨rfl, HB.out⟩
end Go.Proofs.YtejihgfigclppaaGreat
namespace Go.Proofs.YtejihgfigclppaaGreat
open Go.RowKit Go.Lib
set_option linter.unusedVariables false
def E0 (c : DConf) : Det := Det.new 0 0 c 1
def E1 (c : DConf) (seq of by_ : Int) : Det := { E0 c with num := 1, er := [⟨1, of, by_, seq⟩] }
def E2 (c : DConf) : Det := { E0 c with num := 1 }
theorem e0_still (c : DConf) : ((E0 c).hears []).contradict = E0 c := rfl
theorem e1_still (c : DConf) (seq of by_ : Int) : ((E1 c seq of by_).hears []).contradict = E1 c seq of by_ := rfl
theorem e0_own (c : DConf) (seq by_ : Int) : (E0 c).on ⟨3, by_, 0, seq, 0, []⟩ = (E0 c, [⟨2, 0, by_, seq, 0, allT (E0 c).tab⟩]) := by
  rw [on_doOn]
  show doOn ((E0 c).hears []).contradict _ = _
  rw [e0_still]
  rfl
theorem e0_other (c : DConf) (seq of by_ : Int) (h : of ≠ 0) : (E0 c).on ⟨3, by_, 0, seq, of, []⟩ = (E1 c seq of by_, [⟨1, 0, of, 1, 0, allT (E0 c).tab⟩]) := by
  rw [on_doOn]
  show doOn ((E0 c).hears []).contradict _ = _
  rw [e0_still]
  show (E0 c).request _ = _
  rw [request_other (show ¬ of = (E0 c).self from h)]
  rfl
theorem e1_ack (c : DConf) (seq of by_ : Int) : (E1 c seq of by_).on ⟨2, of, 0, 1, of, []⟩ = (E2 c, [⟨2, 0, by_, seq, of, allT (E0 c).tab⟩]) := by
  rw [on_doOn]
  show doOn ((E1 c seq of by_).hears []).contradict _ = _
  rw [e1_still]
  show (E1 c seq of by_).ack _ = _
  have hf : (E1 c seq of by_).er.findIdx? (Er.is 1 of) = some 0 := by simp [E1, Er.is]
  rw [ack_some (m := ⟨2, of, 0, 1, of, []⟩) (by intro h; cases h) hf (by show 0 < 1; decide)]
  rfl
theorem e2_still (c : DConf) : ((E2 c).hears []).contradict = E2 c := rfl
theorem e2_ack (c : DConf) (of : Int) : (E2 c).on ⟨2, of, 0, 1, of, []⟩ = (E2 c, []) := by
  rw [on_doOn]
  show doOn ((E2 c).hears []).contradict _ = _
  rw [e2_still]
  exact ack_none (d := E2 c) (m := ⟨2, of, 0, 1, of, []⟩) (by intro h; cases h) rfl
/-- an errand, step by step -/
structure ExE (c : DConf) (seq of by_ : Int) (d0 d1 d2 : Det) : Prop where
  s0 : Det.new 0 0 c 1 = d0
  own : of = 0 → ∃ t, d0.on ⟨3, by_, 0, seq, 0, []⟩ = (d0, [⟨2, 0, by_, seq, 0, t⟩])
  s1 : of ≠ 0 → ∃ t, d0.on ⟨3, by_, 0, seq, of, []⟩ = (d1, [⟨1, 0, of, 1, 0, t⟩])
  s2 : of ≠ 0 → ∃ t, d1.on ⟨2, of, 0, 1, of, []⟩ = (d2, [⟨2, 0, by_, seq, of, t⟩])
  s3 : d2.on ⟨2, of, 0, 1, of, []⟩ = (d2, [])
  z0 : d0.self = 0
  z1 : d1.self = 0
  z2 : d2.self = 0
  lf0 : d0.left = false
  lf1 : d1.left = false
  lf2 : d2.left = false
  k0 : DetOk d0
  k1 : of ≠ 0 → DetOk d1
  k2 : of ≠ 0 → DetOk d2
  n0 : d0.num < 1000000
  n1 : d1.num < 1000000
  n2 : d2.num < 1000000
theorem exE (c : DConf) (hc : c.right) (seq of by_ : Int) : ∃ d0 d1 d2, ExE c seq of by_ d0 d1 d2 := by
  have k0 : DetOk (E0 c) := DetOk.new (by decide) hc
  have k1 : of ≠ 0 → DetOk (E1 c seq of by_) := fun h => by
    have := k0.on ⟨3, by_, 0, seq, of, []⟩ (by show (0 : Int) < 1000000; decide)
    rw [e0_other c seq of by_ h] at this
    exact this
  exact ⟨E0 c, E1 c seq of by_, E2 c, {
    s0 := rfl
    own := fun h => ⟨_, e0_own c seq by_⟩
    s1 := fun h => ⟨_, e0_other c seq of by_ h⟩
    s2 := fun h => ⟨_, e1_ack c seq of by_⟩
    s3 := e2_ack c of
    z0 := rfl
    z1 := rfl
    z2 := rfl
    lf0 := rfl
    lf1 := rfl
    lf2 := rfl
    k0 := k0
    k1 := k1
    k2 := fun h => by
      have := (k1 h).on ⟨2, of, 0, 1, of, []⟩ (by show (1 : Int) < 1000000; decide)
      rw [e1_ack] at this
      exact this
    n0 := by show (0 : Int) < 1000000; decide
    n1 := by show (1 : Int) < 1000000; decide
    n2 := by show (1 : Int) < 1000000; decide }⟩
end Go.Proofs.YtejihgfigclppaaGreat
