/-
  As Tell, of a region in which one operation stores into what the region itself made, anywhere among the others.
-/
import Derived.Test.YtejihgfigclppaaGreatMWhole
namespace Go.Proofs.YtejihgfigclppaaGreat
open Go.RowKit
set_option linter.unusedVariables false
section
variable {P : Program} {ops : Array Oper} {Q : Exit → Act → World → Prop}
theorem tell_region_store {id : Nat} {act : Act} {w : World} (hm : P.follows .mixedOrders = true) (Fs : List (Nat × (Value → World → Prop))) (s : Nat) (hs : s < Fs.length) (q : Nat) (hq : q < Fs.length) (hqs : q ≠ s) (hnq : Needs ops s q) (DS : List Nat) (hn : ops.size = Fs.length) (hnd : (Fs.map (·.1)).Nodup)
    (hds : ∀ (j : Nat) (hj : j < Fs.length), j ≠ s → Fs[j].1 ∈ DS) (hsz : ∀ d ∈ DS, d < act.tmps.size)
    (haf : afterOk .any ops = true) (hmono : ∀ p ∈ Fs, Lasts p.2)
    (hstep : ∀ (i : Nat) (hi : i < Fs.length) (a : Act) (w' : World), i ≠ s → Ag DS act a → Below w.heap.size w w' → (∀ (j : Nat) (hj : j < Fs.length), j ≠ s → Needs ops i j → Fs[j].2 (a.eval (.tmp Fs[j].1)) w') → Leaves P ops Q i Fs[i].1 Fs[i].2 a w')
    (hstore : ∀ (a : Act) (w' : World), Ag DS act a → Below w.heap.size w w' → (∀ (j : Nat) (hj : j < Fs.length), j ≠ s → Needs ops s j → Fs[j].2 (a.eval (.tmp Fs[j].1)) w') →
      wpOp P ops Q s (fun a2 w2 => a2 = a ∧ Below w.heap.size w w2 ∧ w'.heap.size ≤ w2.heap.size ∧ Fs[s].2 (a.eval (.tmp Fs[q].1)) w2 ∧ ∀ (j : Nat) (hj : j < Fs.length), j ≠ s → ∀ v, Fs[j].2 v w' → Fs[j].2 v w2) a w')
    (hend : ∀ (a : Act) (w' : World), Ag DS act a → Below w.heap.size w w' → (∀ (j : Nat) (hj : j < Fs.length), j ≠ s → Fs[j].2 (a.eval (.tmp Fs[j].1)) w') → Fs[s].2 (a.eval (.tmp Fs[q].1)) w' → Q .normal a w') : (Code.region id ops true).wp P Q act w := by
  refine wp_region_inv hm (fun L a w' => L.size = Fs.length ∧ Ag DS act a ∧ Below w.heap.size w w' ∧ (L.getD s false = true → L.getD q false = true ∧ Fs[s].2 (a.eval (.tmp Fs[q].1)) w') ∧ ∀ (j : Nat) (hj : j < Fs.length), j ≠ s → L.getD j false = true → Fs[j].2 (a.eval (.tmp Fs[j].1)) w') ?_ ?_ ?_
  · have hz : ∀ j, (Array.replicate ops.size false).getD j false = false := fun j => by
      by_cases hs : j < ops.size <;> simp [Array.getD_eq_getD_getElem?, hs]
    refine ⟨by rw [Array.size_replicate]; exact hn, Ag.refl _ _, ⟨rfl, rfl, rfl, Nat.le_refl _, fun _ _ => rfl⟩, fun h => ?_, fun j hj _ h => ?_⟩
    · rw [hz s] at h; cases h
    · rw [hz j] at h; cases h
  · intro L a w' i hi hI
    obtain ⟨hL, hag, hb, hS, hF⟩ := hI
    obtain ⟨hun, o0, ho0, hdep⟩ := mem_ready.1 hi
    have hlt : i < Fs.length := by rw [← hn]; exact (Array.getElem?_eq_some_iff.1 ho0).1
    have hdone : ∀ j, Needs ops i j → L.getD j false = true := by
      rintro j ⟨o, ho, e, he, hbd, rfl⟩
      rw [ho0] at ho
      obtain rfl := Option.some.inj ho
      exact hdep e he hbd
    by_cases his : i = s
    · subst his
      have h := hstore a w' hag hb (fun j hj hjs hne => hF j hj hjs (hdone j hne))
      refine wpOp_mono (fun a2 w2 h2 => ?_) h
      obtain ⟨rfl, hb2, hle, hG, hk⟩ := h2
      refine ⟨by simpa using hL, hag, hb2, fun _ => ⟨by rw [getD_set_ne false (fun e => hqs e.symm)]; exact hdone q hnq, hG⟩, fun j hj hjs hLj => ?_⟩
      rw [getD_set_ne false (fun e => hjs e.symm)] at hLj
      exact hk j hj hjs _ (hF j hj hjs hLj)
    · have h := hstep i hlt a w' his hag hb (fun j hj hjs hne => hF j hj hjs (hdone j hne))
      have hdi : Fs[i].1 ∈ DS := hds i hlt his
      refine wpOp_mono (fun a2 w2 h2 => ?_) h
      obtain ⟨v, rfl, hb2, hv⟩ := h2
      refine ⟨by simpa using hL, hag.put hdi v, hb.trans (hb2.mono hb.size), fun hLs => ?_, fun j hj hjs hLj => ?_⟩
      · rw [getD_set_ne false his] at hLs
        obtain ⟨hLq, hG⟩ := hS hLs
        have hun0 := unlisted_getD hun
        have hiq : i ≠ q := fun e => by rw [e, hLq] at hun0; cases hun0
        refine ⟨by rw [getD_set_ne false hiq]; exact hLq, ?_⟩
        have hne : Fs[i].1 ≠ Fs[q].1 := by
          intro e
          have h1 := (List.getElem_inj (i := i) (j := q) (h₀ := by simpa using hlt) (h₁ := by simpa using hq) hnd).1 (by simpa using e)
          exact hiq h1
        rw [eval_put_ne v hne]
        exact hmono _ (List.getElem_mem _) _ _ _ hb2 hG
      · by_cases hij : j = i
        · subst hij
          rw [eval_put_same v (by rw [hag.size]; exact hsz _ hdi)]
          exact hv
        · have hne : Fs[i].1 ≠ Fs[j].1 := by
            intro e
            have h1 := (List.getElem_inj (i := i) (j := j) (h₀ := by simpa using hlt) (h₁ := by simpa using hj) hnd).1 (by simpa using e)
            exact hij h1.symm
          rw [eval_put_ne v hne]
          rw [getD_set_ne false (fun e => hij e.symm)] at hLj
          exact hmono _ (List.getElem_mem _) _ _ _ hb2 (hF j hj hjs hLj)
  · intro L a w' hr hI
    obtain ⟨hL, hag, hb, hS, hF⟩ := hI
    have hlist := all_listed_b hL hn haf hr
    exact hend a w' hag hb (fun j hj hjs => hF j hj hjs (hlist j hj)) (hS (hlist s hs)).2
end
end Go.Proofs.YtejihgfigclppaaGreat
