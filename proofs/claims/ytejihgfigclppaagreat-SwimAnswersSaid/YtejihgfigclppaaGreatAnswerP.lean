/-
  Two detectors that answer one another, plainly. No program in sight.
-/
import Derived.Test.YtejihgfigclppaaGreatMFindsR
import Derived.Test.YtejihgfigclppaaGreatMLaw20b
namespace Go.Proofs.YtejihgfigclppaaGreat
open Go.RowKit Go.Lib
set_option linter.unusedVariables false
def W2 : List Mb := [⟨0, 1, 0⟩, ⟨1, 1, 0⟩]
/-- what stays all the while, but for the probe -/
structure Two (me o : Int) (d : Det) : Prop where
  who : (me = 0 ∧ o = 1) ∨ (me = 1 ∧ o = 0)
  self : d.self = me
  inc : d.inc = 0
  left : d.left = false
  er : d.er = []
  ws : d.ws = []
  since : ∀ n, d.since n = none
  t0 : d.tab 0 = some ⟨1, 0⟩
  t1 : d.tab 1 = some ⟨1, 0⟩
  t2 : ∀ k, 2 ≤ k → d.tab k = none
theorem Two.all {me o : Int} {d : Det} (h : Two me o d) : allT d.tab = W2 := by
  unfold allT
  simp only [wordsTo, h.t0, h.t1, h.t2 2 (by decide), h.t2 3 (by decide), h.t2 4 (by decide), h.t2 5 (by decide), h.t2 6 (by decide), h.t2 7 (by decide)]
  rfl
theorem Two.live {me o : Int} {d : Det} (h : Two me o d) : liveT d.tab = [0, 1] := by
  unfold liveT
  simp only [liveTo, h.t0, h.t1, h.t2 2 (by decide), h.t2 3 (by decide), h.t2 4 (by decide), h.t2 5 (by decide), h.t2 6 (by decide), h.t2 7 (by decide)]
  rfl
theorem Two.others {me o : Int} {d : Det} (h : Two me o d) : othersT d.self d.tab = [o] := by
  unfold othersT
  rw [h.live, h.self]
  rcases h.who with ⟨rfl, rfl⟩ | ⟨rfl, rfl⟩ <;> rfl
theorem bury_id {d : Det} (h : ∀ n, d.since n = none) : ∀ n, d.buryTo n = d
  | 0 => rfl
  | n + 1 => by
    show (d.buryTo n).bury1 n = d
    rw [bury_id h n]
    exact bury1_none d n (h n)
theorem once_one (x : Int) : onceL [x] = [x] := (onceL_eq (by simp [Rises]) fun y => Iff.rfl).symm
theorem next_one (s x : Int) : nextL s [] [x] = (s, [x]) := by rw [nextL_empty, once_one]; rfl
def Det.asks (d : Det) (o : Int) : Det := { d with clock := d.clock + 1, ws := [], num := d.num + 1, pr := some (d.num + 1, o), began := d.clock + 1 }
theorem Two.tick {me o : Int} {d : Det} (h : Two me o d) (hp : d.pr = none) : d.tick = (d.asks o, [⟨1, me, o, d.num + 1, 0, W2⟩]) := by
  have hb : Det.bury { d with clock := d.clock + 1 } = { d with clock := d.clock + 1 } := bury_id (d := { d with clock := d.clock + 1 }) h.since 8
  have ha : Det.around { d with clock := d.clock + 1 } = ({ d with clock := d.clock + 1 }, []) := by unfold Det.around; dsimp only; rw [hp]
  have hg : Det.give { d with clock := d.clock + 1 } = { d with clock := d.clock + 1 } := by unfold Det.give; dsimp only; rw [hp]
  have ho := h.others
  have hbe : Det.begin { d with clock := d.clock + 1 } = (d.asks o, [⟨1, me, o, d.num + 1, 0, W2⟩]) := by
    unfold Det.begin
    dsimp only
    rw [hp]
    dsimp only
    rw [ho, if_neg (List.cons_ne_nil _ _), h.ws, next_one]
    show (d.asks o, [(⟨1, d.self, o, d.num + 1, 0, allT d.tab⟩ : Sent)]) = _
    rw [h.all, h.self]
  unfold Det.tick
  rw [if_neg (by rw [h.left]; decide)]
  dsimp only
  rw [hb, ha]
  dsimp only
  rw [hg, hbe]
  rfl
theorem Two.asks {me o : Int} {d : Det} (h : Two me o d) : Two me o (d.asks o) := ⟨h.who, h.self, h.inc, h.left, h.er, rfl, h.since, h.t0, h.t1, h.t2⟩
theorem Two.drop {me o : Int} {d : Det} (h : Two me o d) : Two me o { d with pr := none } := ⟨h.who, h.self, h.inc, h.left, h.er, h.ws, h.since, h.t0, h.t1, h.t2⟩
theorem hear_old {d : Det} {m : Mb} (h : d.tab m.node.toNat = some ⟨m.st, m.inc⟩) : d.hear m = d := by
  unfold Det.hear
  rw [if_neg]
  rintro ⟨_, hb⟩
  unfold newsT at hb
  rw [h] at hb
  have := of_decide_eq_true hb
  rcases this with e | ⟨_, e⟩
  · exact absurd e (Int.lt_irrefl _)
  · exact absurd e (Int.lt_irrefl _)
theorem Two.hears {me o : Int} {d : Det} (h : Two me o d) : (d.hears W2).contradict = d := by
  have e : d.hears W2 = d := by
    show (d.hear ⟨0, 1, 0⟩).hear ⟨1, 1, 0⟩ = d
    rw [hear_old (m := ⟨0, 1, 0⟩) h.t0, hear_old (m := ⟨1, 1, 0⟩) h.t1]
  rw [e]
  unfold Det.contradict
  have ht : d.tab d.self.toNat = some ⟨1, 0⟩ := by
    rw [h.self]
    rcases h.who with ⟨rfl, rfl⟩ | ⟨rfl, rfl⟩
    · exact h.t0
    · exact h.t1
  rw [ht]
  exact if_pos (.inr (.inl ⟨rfl, by rw [h.inc]; exact Int.le_refl 0⟩))
theorem Two.onPing {me o : Int} {d : Det} (h : Two me o d) (q : Int) : d.on ⟨1, o, me, q, 0, W2⟩ = (d, [⟨2, me, o, q, me, W2⟩]) := by
  unfold Det.on
  dsimp only
  rw [if_pos rfl, h.hears]
  show (d, [(⟨2, d.self, o, q, d.self, allT d.tab⟩ : Sent)]) = _
  rw [h.all, h.self]
theorem Two.onAck {me o : Int} {d : Det} (h : Two me o d) (q : Int) (hp : d.pr = some (q, o)) : d.on ⟨2, o, me, q, o, W2⟩ = ({ d with pr := none }, []) := by
  unfold Det.on
  dsimp only
  rw [if_neg (by decide), if_pos rfl, h.hears]
  unfold Det.ack
  exact if_pos hp
/-- what a step asks of a detector -/
structure Fit (s : Int) (d : Det) : Prop where
  ok : DetOk d
  num : d.num < 1000000
  left : d.left = false
  self : d.self = s
structure Turn (x y : Det) (L : List Sent) (x' y' : Det) (L' : List Sent) (m : Sent) (rest o : List Sent) : Prop where
  L : L = m :: rest
  L' : L' = rest ++ o
  right : ∀ hd, (m.msg hd).right
  small : m.ms.length ≤ 1000
  step : (m.to_ = 0 ∧ x.on m.got = (x', o) ∧ y' = y) ∨ (m.to_ = 1 ∧ y.on m.got = (y', o) ∧ x' = x)
structure ExT (x y : Det) (lx ly : List Sent) (X Y : Nat → Det) (L : Nat → List Sent) : Prop where
  tx : x.tick = (X 0, lx)
  ty : y.tick = (Y 0, ly)
  l0 : L 0 = lx ++ ly
  l4 : L 4 = []
  lx1 : lx.length ≤ 1
  ly1 : ly.length ≤ 1
  len : ∀ k, k ≤ 4 → (L k).length ≤ 2
  fx : ∀ k, k ≤ 4 → Fit 0 (X k)
  fy : ∀ k, k ≤ 4 → Fit 1 (Y k)
  turn : ∀ k, k < 4 → ∃ m rest o, Turn (X k) (Y k) (L k) (X (k + 1)) (Y (k + 1)) (L (k + 1)) m rest o
/-- what holds behind i ticks -/
structure Calm (me o : Int) (i : Nat) (d : Det) : Prop where
  two : Two me o d
  ok : DetOk d
  pr : d.pr = none
  clock : d.clock = i
  num : d.num = i
theorem Calm.fit {me o : Int} {i : Nat} {d : Det} (h : Calm me o i d) (hi : i ≤ 1000) : Fit me d := ⟨h.ok, by rw [h.num]; omega, h.two.left, h.two.self⟩
theorem Calm.next {me o : Int} {i : Nat} {d : Det} (h : Calm me o i d) (hi : i ≤ 1000) : Fit me (d.asks o) ∧ Calm me o (i + 1) { d.asks o with pr := none } := by
  have hk := h.ok.tick (by rw [h.clock]; omega) (by rw [h.num]; omega)
  rw [h.two.tick h.pr] at hk
  have hn : (d.asks o).num = ((i + 1 : Nat) : Int) := by show d.num + 1 = _; rw [h.num]; omega
  have hc : (d.asks o).clock = ((i + 1 : Nat) : Int) := by show d.clock + 1 = _; rw [h.clock]; omega
  exact ⟨⟨hk, by rw [hn]; omega, h.two.left, h.two.self⟩, ⟨h.two.asks.drop, hk.noPr, rfl, hc, hn⟩⟩
theorem msOk_two : MsOk W2 := by decide
theorem exT {i : Nat} (hi : i ≤ 1000) {x y : Det} (hx : Calm 0 1 i x) (hy : Calm 1 0 i y) : ∃ lx ly X Y L, ExT x y lx ly X Y L ∧ Calm 0 1 (i + 1) (X 4) ∧ Calm 1 0 (i + 1) (Y 4) := by
  obtain ⟨fx, cx⟩ := hx.next hi
  obtain ⟨fy, cy⟩ := hy.next hi
  have nx : 0 ≤ x.num + 1 ∧ x.num + 1 ≤ 1099511627776 := by have := hx.num; omega
  have ny : 0 ≤ y.num + 1 ∧ y.num + 1 ≤ 1099511627776 := by have := hy.num; omega
  have gx : Fit 0 { x.asks 1 with pr := none } := ⟨cx.ok, by rw [cx.num]; omega, cx.two.left, cx.two.self⟩
  have gy : Fit 1 { y.asks 0 with pr := none } := ⟨cy.ok, by rw [cy.num]; omega, cy.two.left, cy.two.self⟩
  refine ⟨_, _, fun k => if k ≤ 2 then x.asks 1 else { x.asks 1 with pr := none }, fun k => if k ≤ 3 then y.asks 0 else { y.asks 0 with pr := none },
    fun k => match k with
      | 0 => [⟨1, 0, 1, x.num + 1, 0, W2⟩, ⟨1, 1, 0, y.num + 1, 0, W2⟩]
      | 1 => [⟨1, 1, 0, y.num + 1, 0, W2⟩, ⟨2, 1, 0, x.num + 1, 1, W2⟩]
      | 2 => [⟨2, 1, 0, x.num + 1, 1, W2⟩, ⟨2, 0, 1, y.num + 1, 0, W2⟩]
      | 3 => [⟨2, 0, 1, y.num + 1, 0, W2⟩]
      | _ => [], ⟨hx.two.tick hx.pr, hy.two.tick hy.pr, rfl, rfl, Nat.le_refl _, Nat.le_refl _, ?_, ?_, ?_, ?_⟩, cx, cy⟩
  · intro k hk
    obtain rfl | rfl | rfl | rfl | rfl : k = 0 ∨ k = 1 ∨ k = 2 ∨ k = 3 ∨ k = 4 := by omega
    · exact Nat.le_refl _
    · exact Nat.le_refl _
    · exact Nat.le_refl _
    · exact Nat.le_succ _
    · exact Nat.zero_le _
  · intro k hk
    dsimp only
    split
    · exact fx
    · exact gx
  · intro k hk
    dsimp only
    split
    · exact fy
    · exact gy
  · intro k hk
    obtain rfl | rfl | rfl | rfl : k = 0 ∨ k = 1 ∨ k = 2 ∨ k = 3 := by omega
    · exact ⟨_, _, _, rfl, rfl, fun hd => Sent.right (.inl rfl) ⟨by show (0 : Int) ≤ 0; decide, by show (0 : Int) ≤ 7; decide⟩ ⟨by show (0 : Int) ≤ 1; decide, by show (1 : Int) ≤ 7; decide⟩ (by show (0 : Int) ≠ 1; decide) nx (.inr rfl) msOk_two, by show 2 ≤ 1000; decide, .inr ⟨rfl, hy.two.asks.onPing (x.num + 1), rfl⟩⟩
    · exact ⟨_, _, _, rfl, rfl, fun hd => Sent.right (.inl rfl) ⟨by show (0 : Int) ≤ 1; decide, by show (1 : Int) ≤ 7; decide⟩ ⟨by show (0 : Int) ≤ 0; decide, by show (0 : Int) ≤ 7; decide⟩ (by show (1 : Int) ≠ 0; decide) ny (.inr rfl) msOk_two, by show 2 ≤ 1000; decide, .inl ⟨rfl, hx.two.asks.onPing (y.num + 1), rfl⟩⟩
    · exact ⟨_, _, _, rfl, rfl, fun hd => Sent.right (.inr (.inl rfl)) ⟨by show (0 : Int) ≤ 1; decide, by show (1 : Int) ≤ 7; decide⟩ ⟨by show (0 : Int) ≤ 0; decide, by show (0 : Int) ≤ 7; decide⟩ (by show (1 : Int) ≠ 0; decide) nx (.inl ⟨by show (2 : Int) ≠ 1; decide, by show (0 : Int) ≤ 1; decide, by show (1 : Int) ≤ 7; decide⟩) msOk_two, by show 2 ≤ 1000; decide, .inl ⟨rfl, hx.two.asks.onAck (x.num + 1) rfl, rfl⟩⟩
    · exact ⟨_, _, _, rfl, rfl, fun hd => Sent.right (.inr (.inl rfl)) ⟨by show (0 : Int) ≤ 0; decide, by show (0 : Int) ≤ 7; decide⟩ ⟨by show (0 : Int) ≤ 1; decide, by show (1 : Int) ≤ 7; decide⟩ (by show (0 : Int) ≠ 1; decide) ny (.inl ⟨by show (2 : Int) ≠ 1; decide, by show (0 : Int) ≤ 0; decide, by show (0 : Int) ≤ 7; decide⟩) msOk_two, by show 2 ≤ 1000; decide, .inr ⟨rfl, hy.two.asks.onAck (y.num + 1) rfl, rfl⟩⟩
/-- the law's example: how both begin -/
structure ExB (c : DConf) (sa sb : Int) (x0 y0 x1 y1 : Det) : Prop where
  s0 : Det.new 0 0 c sa = x0
  t0 : Det.new 1 0 c sb = y0
  s1 : (x0.on ⟨1, 1, 0, 0, 0, [⟨1, 1, 0⟩]⟩).1 = x1
  t1 : (y0.on ⟨1, 0, 1, 0, 0, [⟨0, 1, 0⟩]⟩).1 = y1
  fx : Fit 0 x0
  fy : Fit 1 y0
  cx : Calm 0 1 0 x1
  cy : Calm 1 0 0 y1
theorem contra_own {d : Det} {w : Wd} (h : d.tab d.self.toNat = some w) (h1 : w.st = 1) (h2 : w.inc ≤ d.inc) : d.contradict = d := by
  unfold Det.contradict
  rw [h]
  exact if_pos (.inr (.inl ⟨h1, h2⟩))
theorem two_start {me o : Int} (hw : (me = 0 ∧ o = 1) ∨ (me = 1 ∧ o = 0)) (c : DConf) (sd : Int) : Two me o ((Det.new me 0 c sd).on ⟨1, o, me, 0, 0, [⟨o, 1, 0⟩]⟩).1 ∧ ((Det.new me 0 c sd).on ⟨1, o, me, 0, 0, [⟨o, 1, 0⟩]⟩).1.pr = none ∧ ((Det.new me 0 c sd).on ⟨1, o, me, 0, 0, [⟨o, 1, 0⟩]⟩).1.clock = 0 ∧ ((Det.new me 0 c sd).on ⟨1, o, me, 0, 0, [⟨o, 1, 0⟩]⟩).1.num = 0 := by
  have he : (Det.new me 0 c sd).hear ⟨o, 1, 0⟩ = { Det.new me 0 c sd with tab := updT (Det.new me 0 c sd).tab o.toNat ⟨1, 0⟩, since := updI (fun _ => none) o none } := by
    have h1 : Mb.may ⟨o, 1, 0⟩ := by rcases hw with ⟨rfl, rfl⟩ | ⟨rfl, rfl⟩ <;> decide
    have h2 : newsT (Det.new me 0 c sd).tab ⟨o, 1, 0⟩ = true := by rcases hw with ⟨rfl, rfl⟩ | ⟨rfl, rfl⟩ <;> rfl
    have h3 : ¬ o = (Det.new me 0 c sd).self := by show ¬ o = me; omega
    unfold Det.hear
    rw [if_pos ⟨h1, h2⟩, if_neg h3]
    rfl
  have ht : Two me o ((Det.new me 0 c sd).hear ⟨o, 1, 0⟩) := by
    rw [he]
    refine ⟨hw, rfl, rfl, rfl, rfl, rfl, ?_, ?_, ?_, ?_⟩
    · intro n
      show updI (fun _ => none) o none n = none
      unfold updI
      split <;> rfl
    · rcases hw with ⟨rfl, rfl⟩ | ⟨rfl, rfl⟩ <;> rfl
    · rcases hw with ⟨rfl, rfl⟩ | ⟨rfl, rfl⟩ <;> rfl
    · intro k hk
      have h1 : k ≠ o.toNat := by omega
      have h2 : k ≠ me.toNat := by omega
      show updT (updT (fun _ => none) me.toNat ⟨1, 0⟩) o.toNat ⟨1, 0⟩ k = none
      rw [updT_other _ _ h1, updT_other _ _ h2]
  have hc : ((Det.new me 0 c sd).hear ⟨o, 1, 0⟩).contradict = (Det.new me 0 c sd).hear ⟨o, 1, 0⟩ := by
    refine contra_own (w := ⟨1, 0⟩) ?_ rfl (by rw [ht.inc]; exact Int.le_refl 0)
    rw [ht.self]
    rcases hw with ⟨rfl, rfl⟩ | ⟨rfl, rfl⟩
    · exact ht.t0
    · exact ht.t1
  have e : ((Det.new me 0 c sd).on ⟨1, o, me, 0, 0, [⟨o, 1, 0⟩]⟩).1 = ((Det.new me 0 c sd).hear ⟨o, 1, 0⟩).contradict := rfl
  rw [e, hc]
  exact ⟨ht, hear_pr _ _, hear_clock _ _, hear_num _ _⟩
theorem exB (c : DConf) (hc : c.right) (sa sb : Int) : ∃ x0 y0 x1 y1, ExB c sa sb x0 y0 x1 y1 := by
  have kx : DetOk (Det.new 0 0 c sa) := DetOk.new (by decide) hc
  have ky : DetOk (Det.new 1 0 c sb) := DetOk.new (by decide) hc
  have nx : (Det.new 0 0 c sa).num < 1000000 := by show (0 : Int) < 1000000; decide
  have ny : (Det.new 1 0 c sb).num < 1000000 := by show (0 : Int) < 1000000; decide
  have hx := kx.on ⟨1, 1, 0, 0, 0, [⟨1, 1, 0⟩]⟩ nx
  have hy := ky.on ⟨1, 0, 1, 0, 0, [⟨0, 1, 0⟩]⟩ ny
  obtain ⟨tx, px, cx, ux⟩ := two_start (.inl ⟨rfl, rfl⟩) c sa
  obtain ⟨ty, py, cy, uy⟩ := two_start (.inr ⟨rfl, rfl⟩) c sb
  exact ⟨_, _, _, _, rfl, rfl, rfl, rfl, ⟨kx, nx, rfl, rfl⟩, ⟨ky, ny, rfl, rfl⟩, ⟨tx, hx, px, cx, ux⟩, ⟨ty, hy, py, cy, uy⟩⟩
end Go.Proofs.YtejihgfigclppaaGreat
