/-
  What an append to a new empty slice of events, and another to it, leave: laws on worlds for regions that draw their order.
-/
import Derived.Test.YtfbbafmklahmmaaSub
import Derived.Test.YtfbbafmklahmmaaSets
namespace Go.Proofs.Ytfbbafmklahmmaa
open Go.RowKit
set_option linter.unusedVariables false
theorem owns_made_at {e B : Nat} (W : World) (n : Nat) (hn : W.heap.size = n) (hB : B ≤ n) : Owns pcells 14 B e (W.alloc (.cells #[] e)) (.slice (some ⟨n, 0, none⟩) 0 0) [] := by
  subst hn
  exact World.ownsRow_made W #[] 0 hB (by decide) rfl
section
variable {wA : World} {e : Nat}
theorem own50a : Owns pcells 14 wA.heap.size e (wA.drew.alloc (.cells #[] e)) (.slice (some ⟨wA.heap.size, 0, none⟩) 0 0) [] := owns_made_at _ _ rfl (Nat.le_refl _)
theorem own50b (lit : Obj) : Owns pcells 14 wA.heap.size e ((wA.drew.alloc (.cells #[] e)).alloc lit) (.slice (some ⟨wA.heap.size, 0, none⟩) 0 0) [] := own50a.below ((Below.refl _ _).alloc (Nat.le_refl _) _) (Nat.le_refl _)
theorem own50c (lit : Obj) : Owns pcells 14 wA.heap.size e ((wA.drew.alloc lit).alloc (.cells #[] e)) (.slice (some ⟨wA.heap.size + 1, 0, none⟩) 0 0) [] := owns_made_at _ _ (by simp) (by omega)
theorem bA1 (lit : Obj) : Below wA.heap.size wA (wA.drew.alloc lit) := (below_drew (Below.refl _ _)).alloc (Nat.le_refl _) _
theorem bA2 (lit lit2 : Obj) : Below wA.heap.size wA ((wA.drew.alloc lit).alloc lit2) := (bA1 lit).alloc (by simp) _
theorem sl53b {w2 : World} {cs : Array Value} {ms : List PEv} {n : Nat} (hg : ((wA.drew.alloc (.cells #[] e)).alloc (.cells cs e)).grownBy w2 (Value.slice (some ⟨wA.heap.size, 0, none⟩) 0 0).ownBlock) (hc : cs.toList = ms.flatMap pcells) (hn : n = ms.length) : SlAt pcells w2 (.slice (some ⟨wA.heap.size + 1, 0, none⟩) n n) ms := by
  have h := slAt_new (enc := pcells) (wA.drew.alloc (.cells #[] e)) cs e n n (0, 0) ms hc hn (Nat.le_refl _)
  simp only [World.size_alloc, World.size_drew] at h
  exact h.grown pcells_len (by decide) hg (.inr (by simp [Value.ownBlock]))
theorem sl53c {w2 : World} {cs : Array Value} {ms : List PEv} {n : Nat} (hg : ((wA.drew.alloc (.cells cs e)).alloc (.cells #[] e)).grownBy w2 (Value.slice (some ⟨wA.heap.size + 1, 0, none⟩) 0 0).ownBlock) (hc : cs.toList = ms.flatMap pcells) (hn : n = ms.length) : SlAt pcells w2 (.slice (some ⟨wA.heap.size, 0, none⟩) n n) ms := by
  have h := slAt_new (enc := pcells) wA.drew cs e n n (0, 0) ms hc hn (Nat.le_refl _)
  simp only [World.size_drew] at h
  have h2 := h.below (B := (wA.drew.alloc (.cells cs e)).heap.size) pcells_len (by decide) ((Below.refl _ _).alloc (Nat.le_refl _) (.cells #[] e)) (Nat.le_refl _)
  exact h2.grown pcells_len (by decide) hg (.inr (by simp [Value.ownBlock]))
theorem b50 {w1 w2 : World} {k : Nat} (hb : Below wA.heap.size wA w1) (hg : w1.grownBy w2 (Value.slice (some ⟨k, 0, none⟩) 0 0).ownBlock) (hk : wA.heap.size ≤ k) : Below wA.heap.size wA w2 :=
  hb.grown hg hb.size fun q hq => by simp [Value.ownBlock] at hq; omega
theorem cells_kept {w2 : World} {n : Nat} {cs : Array Value} (hb : Below wA.heap.size wA w2) (hn : n < wA.heap.size) (hA : ∀ o, wA.cell? ⟨n, o, none⟩ = cs[o]?) : ∀ o, w2.cell? ⟨n, o, none⟩ = cs[o]? := fun o => ((bcell hb).1 _ _ hn).trans (hA o)
theorem cells_drew {n : Nat} {cs : Array Value} (hA : ∀ o, wA.cell? ⟨n, o, none⟩ = cs[o]?) : ∀ o, wA.drew.cell? ⟨n, o, none⟩ = cs[o]? := hA
theorem evs_more {w : World} {v : Value} {ps ms : List PEv} (h : SlAt pcells w v (ps ++ ms)) (hr : RemsAt w ps) (hm : RemsAt w ms) : EvsAt w v (ps ++ ms) := ⟨h, fun p hp => by
  rcases List.mem_append.1 hp with hp | hp
  · exact hr p hp
  · exact hm p hp⟩
end
end Go.Proofs.Ytfbbafmklahmmaa
