/-
  Two appends to a new slice of events, in whatever order their region's operations come: what is known at each point.
-/
import Derived.Test.YtfbbafmklahmmaaStepEv
import Derived.Test.YtfbbafmklahmmaaRegStep
namespace Go.Proofs.Ytfbbafmklahmmaa
open Go.RowKit
set_option linter.unusedVariables false
structure TwoApp (wA : World) (e : Nat) (ps mo : List PEv) (bn b1 bl b2 bc : Bool) (vn v1 vl v2 : Value) (w : World) : Prop where
  below : Below wA.heap.size wA w
  ord : b2 = true → b1 = true
  new : bn = true → b1 = false → Owns pcells 14 wA.heap.size e w vn []
  one : b1 = true → b2 = false → Owns pcells 14 wA.heap.size e w v1 ps
  lit : bl = true → b2 = false → SlAt pcells w vl mo
  apart : bn = true → b1 = false → bl = true → b2 = false → vl.ownBlock ≠ vn.ownBlock
  two : b2 = true → bc = false → EvsAt w v2 (ps ++ mo)
section
variable {wA w : World} {e : Nat} {ps mo : List PEv} {bn b1 bl b2 bc : Bool} {vn v1 vl v2 : Value}
theorem TwoApp.start (vn v1 vl v2 : Value) : TwoApp wA e ps mo false false false false false vn v1 vl v2 wA.drew :=
  ⟨below_drew (Below.refl _ _), fun h => (nomatch h), fun h => (nomatch h), fun h => (nomatch h), fun h => (nomatch h), fun h => (nomatch h), fun h => (nomatch h)⟩
theorem TwoApp.mkNew (h : TwoApp wA e ps mo false b1 bl b2 bc vn v1 vl v2 w) (hm : mo ≠ []) : TwoApp wA e ps mo true b1 bl b2 bc (.slice (some ⟨w.heap.size, 0, none⟩) 0 0) v1 vl v2 (w.alloc (.cells #[] e)) where
  below := h.below.alloc h.below.size _
  ord := h.ord
  new _ _ := owns_made_at w _ rfl h.below.size
  one k1 k2 := (h.one k1 k2).below ((Below.refl _ _).alloc (Nat.le_refl _) _) (Nat.le_refl _)
  lit k1 k2 := (h.lit k1 k2).below pcells_len (by decide) ((Below.refl _ _).alloc (Nat.le_refl _) _) (Nat.le_refl _)
  apart _ _ k3 k4 := fun he => by
    have := (h.lit k3 k4).lt pcells_len (by decide) hm w.heap.size (he.trans rfl)
    omega
  two k1 k2 := (h.two k1 k2).below ((Below.refl _ _).alloc (Nat.le_refl _) _) (Nat.le_refl _)
theorem TwoApp.mkLit (h : TwoApp wA e ps mo bn b1 false b2 bc vn v1 vl v2 w) {cs : Array Value} {n : Nat} (hc : cs.toList = mo.flatMap pcells) (hn : n = mo.length) : TwoApp wA e ps mo bn b1 true b2 bc vn v1 (.slice (some ⟨w.heap.size, 0, none⟩) n n) v2 (w.alloc (.cells cs e)) where
  below := h.below.alloc h.below.size _
  ord := h.ord
  new k1 k2 := (h.new k1 k2).below ((Below.refl _ _).alloc (Nat.le_refl _) _) (Nat.le_refl _)
  one k1 k2 := (h.one k1 k2).below ((Below.refl _ _).alloc (Nat.le_refl _) _) (Nat.le_refl _)
  lit _ _ := slAt_new w cs e n n (0, 0) mo hc hn (Nat.le_refl _)
  apart k1 k2 _ _ := fun he => by
    have := (h.new k1 k2).lt w.heap.size (he.symm.trans rfl)
    omega
  two k1 k2 := (h.two k1 k2).below ((Below.refl _ _).alloc (Nat.le_refl _) _) (Nat.le_refl _)
theorem TwoApp.app1 (h : TwoApp wA e ps mo bn false bl b2 bc vn v1 vl v2 w) {w' : World} {v' : Value} (ho : Owns pcells 14 wA.heap.size e w' v' ([] ++ ps)) (hg : w.grownBy w' vn.ownBlock) (hn : bn = true) : TwoApp wA e ps mo bn true bl b2 bc vn v' vl v2 w' := by
  have hb2 : b2 = false := by
    cases hb : b2 with
    | false => rfl
    | true => exact absurd (h.ord hb) (by simp)
  subst hb2
  exact {
    below := h.below.grown hg h.below.size fun k hk => ((h.new hn rfl).lt k hk).1
    ord := fun k => nomatch k
    new := fun _ k => nomatch k
    one := fun _ _ => ho
    lit := fun k1 k2 => (h.lit k1 k2).grown pcells_len (by decide) hg (.inr (h.apart hn rfl k1 k2))
    apart := fun _ k => nomatch k
    two := fun k => nomatch k }
theorem TwoApp.app2 (h : TwoApp wA e ps mo bn true bl false bc vn v1 vl v2 w) {w' : World} {v' : Value} (hE : RemsAt wA ps) (hM : ∀ W, RemsAt W mo) (ho : Owns pcells 14 wA.heap.size e w' v' (ps ++ mo)) (hg : w.grownBy w' v1.ownBlock) : TwoApp wA e ps mo bn true bl true bc vn v1 vl v' w' := by
  have hb : Below wA.heap.size wA w' := h.below.grown hg h.below.size fun k hk => ((h.one rfl rfl).lt k hk).1
  exact {
    below := hb
    ord := fun _ => rfl
    new := fun _ k => nomatch k
    one := fun _ k => nomatch k
    lit := fun _ k => nomatch k
    apart := fun _ k => nomatch k
    two := fun _ _ => evs_more ho.at (hE.below hb (Nat.le_refl _)) (hM _) }
theorem TwoApp.call (h : TwoApp wA e ps mo bn true bl true bc vn v1 vl v2 w) {w' : World} (hb : Below w.heap.size w w') : TwoApp wA e ps mo bn true bl true true vn v1 vl v2 w' where
  below := h.below.trans (hb.mono h.below.size)
  ord := h.ord
  new _ k := nomatch k
  one _ k := nomatch k
  lit _ k := nomatch k
  apart _ k := nomatch k
  two _ k := nomatch k
end
theorem ready_dep {md : Region.Mode} {ops : Array Oper} {L : Array Bool} {i : Nat} {o : Oper} {e : Edge} (h : i ∈ Region.ready md ops L) (ho : ops[i]? = some o) (he : e ∈ o.after) (hb : Region.binds md e = true) : L.getD e.on false = true := by
  obtain ⟨_, o', ho', ha⟩ := mem_ready.1 h
  obtain rfl : o = o' := Option.some.inj (ho.symm.trans ho')
  exact ha e he hb
theorem getD_unlisted {L : Array Bool} {i : Nat} (h : L.getD i true = false) : L.getD i false = false := by
  rcases Nat.lt_or_ge i L.size with h' | h'
  · simp [Array.getD_eq_getD_getElem?, h'] at h ⊢
    exact h
  · simp [Array.getD_eq_getD_getElem?, Array.getElem?_eq_none h'] at h
theorem set_size {L : Array Bool} {i n : Nat} (h : L.size = n) : (L.setIfInBounds i true).size = n := by simpa using h
theorem getD_set_at {L : Array Bool} {i n : Nat} (h : L.size = n) (hi : i < n) : (L.setIfInBounds i true).getD i false = true := getD_set_same (by omega)
end Go.Proofs.Ytfbbafmklahmmaa
