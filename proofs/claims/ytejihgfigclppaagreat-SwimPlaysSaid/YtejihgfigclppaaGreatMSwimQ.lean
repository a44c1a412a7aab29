/-
  What holds of a detector all the while. No program in sight.
  The detector buries; gives up.
-/
import Derived.Test.YtejihgfigclppaaGreatMSwimP
import Derived.Test.YtejihgfigclppaaGreatMSwimB
namespace Go.Proofs.YtejihgfigclppaaGreat
open Go.RowKit Go.Lib
set_option linter.unusedVariables false
structure DetOk (d : Det) : Prop where
 self : 0 ≤ d.self ∧ d.self ≤ 7
 tab : TabOk d.tab
 own : ∃ w, d.tab d.self.toNat = some w
 clock : 0 ≤ d.clock ∧ d.clock ≤ 1000000
 num : 0 ≤ d.num ∧ d.num ≤ 1000000
 since : ∀ n v, d.since n = some v → 0 ≤ v ∧ v ≤ d.clock
 began : 0 ≤ d.began ∧ d.began ≤ d.clock
 er : d.er.length ≤ 16
 ws : d.ws.length ≤ 8
 c : d.c.right
 pr : ∀ p, d.pr = some p → 0 ≤ p.1 ∧ p.1 ≤ d.num ∧ 0 ≤ p.2 ∧ p.2 ≤ 7 ∧ p.2 ≠ d.self
theorem hearT_keeps {t : Tab} (m : Mb) {k : Nat} {w : Wd} (h : t k = some w) : ∃ w', hearT t m k = some w' := by
 unfold hearT
 split
 ·by_cases e : k = m.node.toNat
  ·rw [e, updT_same]; exact ⟨_, rfl⟩
  ·rw [updT_other _ _ e]; exact ⟨_, h⟩
 ·exact ⟨_, h⟩
theorem DetOk.hear {d : Det} (h : DetOk d) (m : Mb) : DetOk (d.hear m) where
 self := by rw [hear_self]; exact h.self
 tab := by rw [hear_tab]; exact h.tab.hear m
 own := by rw [hear_tab, hear_self]; obtain ⟨w, hw⟩ := h.own; exact hearT_keeps m hw
 clock := by rw [hear_clock]; exact h.clock
 num := by rw [hear_num]; exact h.num
 since := by
  rw [hear_clock]
  intro n v hv
  unfold Det.hear at hv
  split at hv
  ·split at hv
   ·exact h.since n v hv
   ·have hv' : updI d.since m.node (if m.st = 2 then some d.clock else none) n = some v := hv
    unfold updI at hv'
    split at hv'
    ·split at hv'
     ·cases hv'; exact ⟨h.clock.1, Int.le_refl _⟩
     ·cases hv'
    ·exact h.since n v hv'
  ·exact h.since n v hv
 began := by rw [hear_began, hear_clock]; exact h.began
 er := by rw [hear_er]; exact h.er
 ws := by rw [hear_ws]; exact h.ws
 c := by rw [hear_c]; exact h.c
 pr := by rw [hear_pr, hear_num, hear_self]; exact h.pr
theorem DetOk.say {d : Det} (h : DetOk d) (n st : Int) : DetOk (d.say n st) := by
 unfold Det.say
 split
 ·exact h.hear _
 ·exact h
theorem DetOk.bury1 {d : Det} (h : DetOk d) (n : Nat) : DetOk (d.bury1 n) := by
 unfold Det.bury1
 split
 ·split
  ·exact h.say _ _
  ·exact h
 ·exact h
theorem DetOk.buryTo {d : Det} (h : DetOk d) : ∀ n, DetOk (d.buryTo n)
 | 0 => h
 | n + 1 => (DetOk.buryTo h n).bury1 n
theorem DetOk.bury {d : Det} (h : DetOk d) : DetOk d.bury := h.buryTo 8
theorem DetOk.withInc {d : Det} (h : DetOk d) (i : Int) : DetOk { d with inc := i } := ⟨h.self, h.tab, h.own, h.clock, h.num, h.since, h.began, h.er, h.ws, h.c, h.pr⟩
theorem DetOk.contradict {d : Det} (h : DetOk d) : DetOk d.contradict := by
 unfold Det.contradict
 split
 ·split
  ·exact h
  ·exact DetOk.hear (DetOk.withInc h _) _
 ·exact h
theorem DetOk.hears {d : Det} (h : DetOk d) : ∀ l, DetOk (d.hears l) := by
 intro l
 unfold Det.hears
 induction l generalizing d with
 | nil => exact h
 | cons m l ih => exact ih (h.hear m)
end Go.Proofs.YtejihgfigclppaaGreat
namespace Go.Proofs.YtejihgfigclppaaGreat
open Go.Shelf Go.RowKit Go.Lib Go.Sort
set_option linter.unusedVariables false
set_option linter.unusedSimpArgs false
theorem DetOk.fits {d : Det} (h : DetOk d) : FitsI d.clock := fitsI ⟨by have := h.clock.1; omega, by have := h.clock.2; omega⟩
set_option maxRecDepth 100000 in
set_option maxHeartbeats 8000000 in
theorem bury_any (M : DM) (d : Det) (hok : DetOk d) (w : World) (h : DetAt w M d) :
  Calls Tryz.prog 46 #[.pointer (some ⟨M.g, 0, none⟩)] w fun e w' => e = .returned (.tuple #[]) ∧ DetAt w' M d.bury ∧ Touch (fun k => k = M.gt ∨ k = M.gm) w w' := by
 have hp : Tryz.prog.follows .mixedOrders = true := by kernel_rfl
 have HOK := Lib.hid (fun n => hok.buryTo n)
 have H0 := Lib.hid h
 clear hok h
 go_enter Tryz.func46, Tryz.ntmps46
 go_wp2_with fail
 go_loopg [5] 8 (fun gk s5 wr => ∃ (n : Nat), s5 = .int .i64 n ∧ n ≤ 8 ∧ 8 - n ≤ gk ∧ Hid (DetAt wr M (d.buryTo n)) ∧ Hid (Touch (fun k => k = M.gt ∨ k = M.gm) w wr))
 case atStart => exact ⟨0, rfl, Nat.zero_le _, Nat.le_refl _, H0.out, Touch.refl _ _⟩
 case round =>
  obtain ⟨n, rfl, hi, hgk, HD, HT⟩ := hrel
  by_cases hlt : n < 8
  ·have hltz : (n : Int) < 8 := by omega
   have hok := HOK.out n
   obtain ⟨dn, hdn⟩ : ∃ dn, d.buryTo n = dn := ⟨_, rfl⟩
   have hnx : d.buryTo (n + 1) = dn.bury1 n := by rw [← hdn]; rfl
   rw [hdn] at hok HD
   have c11 : wr.cell? ⟨M.g, 11, none⟩ = some (.map (some M.gm)) := HD.out.cell 11
   have c7 : wr.cell? ⟨M.g, 7, none⟩ = some (.int .i64 dn.clock) := HD.out.cell 7
   have c4 : wr.cell? ⟨M.g, 4, none⟩ = some (.int .i64 dn.c.gr) := HD.out.cell 4
   have hlk := HD.out.since.look n hlt
   have hck := hok.clock
   have hfit := hok.fits
   have hsi := hok.since n
   have HNX := Lib.hid hnx
   clear hdn hnx hok
   cases hs : dn.since n with
   | none =>
    rw [hs] at hlk
    simp only [Option.getD_none, Option.isSome_none] at hlk
    have hb1 : dn.bury1 n = dn := by unfold Det.bury1; rw [hs]
    have HB1 := Lib.hid hb1
    clear hsi hs hb1
    go_wp2_with fail
    go_quiet (fail)
    go_wp2_with fail
    go_roundg (8 - (n + 1))
    case measure => omega
    case rel => exact ⟨n + 1, by go_num, by omega, Nat.le_refl _, by rw [HNX.out, HB1.out]; exact HD.out.keep fun _ _ => rfl, HT.out.trans (Touch.of_grown (L := fun k => k = M.gt ∨ k = M.gm) (gb_drewN wr _ none) (fun j hj => by cases hj)) fun _ _ h => h⟩
   | some v =>
    rw [hs] at hlk
    simp only [Option.getD_some, Option.isSome_some] at hlk
    obtain ⟨hv0, hv1⟩ := hsi v hs
    have hw : IntKind.i64.wrap (dn.clock - v) = dn.clock - v := by rw [IntKind.wrap_i64]; omega
    by_cases hge : dn.c.gr ≤ dn.clock - v
    ·have hb1 : dn.bury1 n = dn.say n 3 := by unfold Det.bury1; rw [hs]; exact if_pos hge
     have HB1 := Lib.hid hb1
     clear hsi hs hb1 hv0 hv1
     go_wp2_with fail
     go_quiet (fail)
     go_wp2_with fail
     refine (say_any M dn n hlt 3 (wr.drewN nq) (HD.out.keep fun _ _ => rfl) hfit).mono ?_
     rintro e w4 ⟨rfl, hD4, hT4⟩
     have HD4 := Lib.hid hD4
     have HT4 := Lib.hid ((HT.out.trans (Touch.of_grown (L := fun k => k = M.gt ∨ k = M.gm) (gb_drewN wr _ none) (fun j hj => by cases hj)) fun _ _ h => h).trans hT4 fun _ _ h => h)
     clear hD4 hT4 c11 c7 c4 hlk
     go_wp2_with fail
     go_roundg (8 - (n + 1))
     case measure => omega
     case rel => exact ⟨n + 1, by go_num, by omega, Nat.le_refl _, by rw [HNX.out, HB1.out]; exact HD4.out, HT4.out⟩
    ·have hb1 : dn.bury1 n = dn := by unfold Det.bury1; rw [hs]; exact if_neg hge
     have HB1 := Lib.hid hb1
     clear hsi hs hb1 hv0 hv1
     go_wp2_with fail
     go_quiet (fail)
     go_wp2_with fail
     go_roundg (8 - (n + 1))
     case measure => omega
     case rel => exact ⟨n + 1, by go_num, by omega, Nat.le_refl _, by rw [HNX.out, HB1.out]; exact HD.out.keep fun _ _ => rfl, HT.out.trans (Touch.of_grown (L := fun k => k = M.gt ∨ k = M.gm) (gb_drewN wr _ none) (fun j hj => by cases hj)) fun _ _ h => h⟩
  ·have hltz : ¬ (n : Int) < 8 := by omega
   obtain rfl : n = 8 := by omega
   go_wp2_with fail
   go_end0
   exact ⟨rfl, HD.out, HT.out⟩
end Go.Proofs.YtejihgfigclppaaGreat
