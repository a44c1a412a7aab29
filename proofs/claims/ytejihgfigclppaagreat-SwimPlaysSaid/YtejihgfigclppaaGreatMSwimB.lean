/-
  What the detector says and contradicts: Of, say, contradict, bury, send walked.
  The detector contradicts, buries.
-/
import Derived.Test.YtejihgfigclppaaGreatMMembA
import Derived.Test.YtejihgfigclppaaGreatMWhole
import Derived.Deep.RegionHeld
namespace Go.Proofs.YtejihgfigclppaaGreat
open Go.Shelf Go.RowKit Go.Lib Go.Sort
set_option linter.unusedVariables false
set_option linter.unusedSimpArgs false
set_option maxHeartbeats 4000000 in
theorem ofTab_some (b : Nat) (self : Int) (t : Tab) (k : Nat) (hk : k < 8) (wd : Wd) (ht : t k = some wd) (w : World) (h : TabAt w b self t) :
  Calls Tryz.prog 79 #[.pointer (some ⟨b, 0, none⟩), .int .i64 (k : Int)] w fun e w' => e = .returned (.tuple #[.agg #[.int .i64 (k : Int), .int .i64 wd.st, .int .i64 wd.inc], .bool true]) ∧ Below w.heap.size w w' := by
 have hlt := h.lt
 have hb1 := (Below.refl w.heap.size w).alloc (Nat.le_refl _) (.cells #[.int .i64 0, .int .i64 0, .int .i64 0] 45)
 have h1 := h.keep (hb1.block b hlt)
 obtain ⟨k1, k2, k3⟩ := h1.word hk ht
 have k0 := (h1.cell (1 + k)).trans (tcells_known self t hk)
 unfold knB at k0
 rw [ht] at k0
 simp only [Option.isSome_some] at k0
 have hkz : (k : Int) < 8 := by omega
 have hr1 := heap_alloc_new w (.cells #[.int .i64 0, .int .i64 0, .int .i64 0] 45)
 have HB1 := Lib.hid hb1
 clear hb1 h1 h
 go_enter Tryz.func79, Tryz.ntmps79
 go_wp2_with fail
 refine bodyPost_ret (v := .tuple #[.agg #[.int .i64 (k : Int), .int .i64 wd.st, .int .i64 wd.inc], .bool true]) (by simp [results, Tryz.results79, go_sem, cell_set, heap_alloc_new]) rfl ⟨rfl, ?_⟩
 exact (Below.refl _ _).alloc (Nat.le_refl _) _
set_option maxHeartbeats 4000000 in
theorem ofTab_none (b : Nat) (self : Int) (t : Tab) (k : Nat) (hk : k < 8) (ht : t k = none) (w : World) (h : TabAt w b self t) :
  Calls Tryz.prog 79 #[.pointer (some ⟨b, 0, none⟩), .int .i64 (k : Int)] w fun e w' => e = .returned (.tuple #[.agg #[.int .i64 0, .int .i64 0, .int .i64 0], .bool false]) ∧ Below w.heap.size w w' := by
 have hlt := h.lt
 have hb1 := (Below.refl w.heap.size w).alloc (Nat.le_refl _) (.cells #[.int .i64 0, .int .i64 0, .int .i64 0] 45)
 have h1 := h.keep (hb1.block b hlt)
 have k0 := (h1.cell (1 + k)).trans (tcells_known self t hk)
 unfold knB at k0
 rw [ht] at k0
 simp only [Option.isSome_none] at k0
 have hkz : (k : Int) < 8 := by omega
 have hr1 := heap_alloc_new w (.cells #[.int .i64 0, .int .i64 0, .int .i64 0] 45)
 clear hb1 h1 h
 go_enter Tryz.func79, Tryz.ntmps79
 go_wp2_with fail
 refine bodyPost_ret (v := .tuple #[.agg #[.int .i64 0, .int .i64 0, .int .i64 0], .bool false]) (by simp [results, Tryz.results79, go_sem, cell_set, heap_alloc_new]) rfl ⟨rfl, ?_⟩
 exact (Below.refl _ _).alloc (Nat.le_refl _) _
set_option maxRecDepth 100000 in
set_option maxHeartbeats 4000000 in
theorem say_any (M : DM) (d : Det) (k : Nat) (hk : k < 8) (st : Int) (w : World) (h : DetAt w M d) (hc : FitsI d.clock) :
  Calls Tryz.prog 83 #[.pointer (some ⟨M.g, 0, none⟩), .int .i64 (k : Int), .int .i64 st] w fun e w' => e = .returned (.tuple #[]) ∧ DetAt w' M (d.say k st) ∧ Touch (fun k => k = M.gt ∨ k = M.gm) w w' := by
 have k5 : w.cell? ⟨M.g, 5, none⟩ = some (.pointer (some ⟨M.gt, 0, none⟩)) := h.cell 5
 have HD := Lib.hid h
 have hgl := h.lt
 have hT := h.tab
 clear h
 cases ht : d.tab k with
 | none =>
  have hof := ofTab_none M.gt d.self d.tab k hk ht w hT
  have hs : d.say k st = d := by unfold Det.say; rw [Int.toNat_natCast, ht]
  rw [hs]
  clear hT ht hs
  go_enter Tryz.func83, Tryz.ntmps83
  go_wp2_with fail
  refine hof.mono ?_
  rintro e w2 ⟨rfl, hb2⟩
  clear k5
  have HB2 := Lib.hid hb2
  clear hb2 hof
  go_wp2_with fail
  go_end0
  have hb := HB2.out.alloc HB2.out.size (.cells #[.int .i64 0, .int .i64 0, .int .i64 0] 45)
  exact ⟨rfl, HD.out.below hb, Touch.of_below hb (Nat.le_refl _)⟩
 | some wd =>
  have hof := ofTab_some M.gt d.self d.tab k hk wd ht w hT
  have hs : d.say k st = d.hear ⟨k, st, wd.inc⟩ := by unfold Det.say; rw [Int.toNat_natCast, ht]
  rw [hs]
  clear hT ht hs
  go_enter Tryz.func83, Tryz.ntmps83
  go_wp2_with fail
  refine hof.mono ?_
  rintro e w2 ⟨rfl, hb2⟩
  clear k5
  have HB2 := Lib.hid hb2
  clear hb2 hof
  go_wp2_with fail
  have hb3 := HB2.out.alloc HB2.out.size (.cells #[.int .i64 k, .int .i64 st, .int .i64 wd.inc] 45)
  refine (hear_any M d ⟨k, st, wd.inc⟩ _ (HD.out.below hb3) hc).mono ?_
  rintro e w4 ⟨rfl, hD4, hT4⟩
  have HD4 := Lib.hid hD4
  have HT4 := Lib.hid ((Touch.of_below (L := fun k => k = M.gt ∨ k = M.gm) hb3 (Nat.le_refl _)).trans hT4 fun _ _ h => h)
  clear hD4 hT4 hb3
  go_wp2_with fail
  go_end0
  exact ⟨rfl, HD4.out, HT4.out⟩
def sentV (m : Sent) (o : Option Addr) (c : Nat) : Value := .agg #[.int .i64 m.kind, .int .i64 m.frm, .int .i64 m.to_, .int .i64 m.seq, .int .i64 m.node, .int .i64 0, .int .i64 0, .int .i64 0, .int .i64 0, .int .i64 0, .int .i64 0, .int .i64 0, .int .i64 0, .slice none 0 0, .slice none 0 0, .slice o m.ms.length c]
set_option maxRecDepth 100000 in
set_option maxHeartbeats 8000000 in
theorem send_any (M : DM) (d : Det) (kind to_ seq node : Int) (w : World) (h : DetAt w M d) :
  Calls Tryz.prog 53 #[.pointer (some ⟨M.g, 0, none⟩), .int .i64 kind, .int .i64 to_, .int .i64 seq, .int .i64 node] w fun e w' => ∃ o c, e = .returned (sentV (d.send kind to_ seq node) o c) ∧ Owns Mb.cells 3 w.heap.size 45 w' (.slice o (allT d.tab).length c) (allT d.tab) ∧ Below w.heap.size w w' := by
 obtain ⟨w1, hw1⟩ : ∃ w1, w.alloc (.cells #[.int .i64 0, .int .i64 0, .int .i64 0, .int .i64 0, .int .i64 0, .int .i64 0, .int .i64 0, .int .i64 0, .int .i64 0, .int .i64 0, .int .i64 0, .int .i64 0, .int .i64 0, .slice none 0 0, .slice none 0 0, .slice none 0 0] 42) = w1 := ⟨_, rfl⟩
 have hb1 : Below w.heap.size w w1 := by rw [← hw1]; exact (Below.refl _ _).alloc (Nat.le_refl _) _
 have hr1 : w1.heap[w.heap.size]? = some (.cells #[.int .i64 0, .int .i64 0, .int .i64 0, .int .i64 0, .int .i64 0, .int .i64 0, .int .i64 0, .int .i64 0, .int .i64 0, .int .i64 0, .int .i64 0, .int .i64 0, .int .i64 0, .slice none 0 0, .slice none 0 0, .slice none 0 0] 42) := by rw [← hw1]; exact heap_alloc_new w _
 have hsz1 : w1.heap.size = w.heap.size + 1 := by rw [← hw1]; exact World.size_alloc _ _
 have hD1 := h.below hb1
 have hgl := hD1.lt
 have hng : M.g ≠ w.heap.size := Nat.ne_of_lt h.lt
 have k0 : w1.cell? ⟨M.g, 0, none⟩ = some (.int .i64 d.self) := hD1.cell 0
 have k5 : w1.cell? ⟨M.g, 5, none⟩ = some (.pointer (some ⟨M.gt, 0, none⟩)) := hD1.cell 5
 have hall := fun W h => all_any M.gt d.self d.tab W h
 have hgtl := hD1.tab.lt
 have HT1 := Lib.hid hD1.tab
 have hs : d.send kind to_ seq node = ⟨kind, d.self, to_, seq, node, allT d.tab⟩ := rfl
 rw [hs]
 generalize hms : allT d.tab = ms at *
 have HALL := Lib.hid hall
 have HW1 := Lib.hid hw1
 have HB1 := Lib.hid hb1
 have HR1 := Lib.hid hr1
 have hp : Tryz.prog.follows .mixedOrders = true := by kernel_rfl
 clear hall hw1 hb1 hr1 hD1 h hms hs
 unfold sentV
 dsimp only
 go_enter Tryz.func53, Tryz.ntmps53
 go_wp2_with fail
 rw [HW1.out]
 go_cut [10] (fun s10 wx => ∃ o c, s10 = .pointer (some ⟨w.heap.size, 0, none⟩) ∧ Hid (wx.heap[w.heap.size]? = some (.cells #[.int .i64 kind, .int .i64 d.self, .int .i64 to_, .int .i64 seq, .int .i64 node, .int .i64 0, .int .i64 0, .int .i64 0, .int .i64 0, .int .i64 0, .int .i64 0, .int .i64 0, .int .i64 0, .slice none 0 0, .slice none 0 0, .slice o ms.length c] 42)) ∧ Hid (Owns Mb.cells 3 w.heap.size 45 wx (.slice o ms.length c) ms) ∧ Hid (Below w.heap.size w wx))
 case first =>
  refine tell_region_last (by kernel_rfl) [(11, fun v _ => v = .int .i64 kind), (12, fun v _ => v = .pointer (some ⟨M.g, 0, none⟩)), (13, fun v _ => v = .pointer (some ⟨M.g, 0, none⟩)), (14, fun v _ => v = .pointer (some ⟨M.g, 0, none⟩)), (15, fun v _ => v = .int .i64 d.self), (16, fun v _ => v = .int .i64 to_), (17, fun v _ => v = .int .i64 seq), (18, fun v _ => v = .int .i64 node), (19, fun v _ => v = .pointer (some ⟨M.g, 0, none⟩)), (20, fun v _ => v = .pointer (some ⟨M.g, 0, none⟩)), (21, fun v _ => v = .pointer (some ⟨M.g, 5, none⟩)), (22, fun v _ => v = .pointer (some ⟨M.gt, 0, none⟩)), (23, fun v W => ∃ o c, v = .slice o ms.length c ∧ Owns Mb.cells 3 (w.heap.size + 1) 45 W (.slice o ms.length c) ms), (24, fun v W => ∃ o c, v = .agg #[.int .i64 kind, .int .i64 d.self, .int .i64 to_, .int .i64 seq, .int .i64 node, .int .i64 0, .int .i64 0, .int .i64 0, .int .i64 0, .int .i64 0, .int .i64 0, .int .i64 0, .int .i64 0, .slice none 0 0, .slice none 0 0, .slice o ms.length c] ∧ Owns Mb.cells 3 (w.heap.size + 1) 45 W (.slice o ms.length c) ms)] 14 rfl rfl (by show ([11, 12, 13, 14, 15, 16, 17, 18, 19, 20, 21, 22, 23, 24] : List Nat).Nodup; decide) (by show ∀ d ∈ ([11, 12, 13, 14, 15, 16, 17, 18, 19, 20, 21, 22, 23, 24] : List Nat), d < 25; decide) (by kernel_rfl) ?hmono ?hstep ?hall ?hend
  case hmono =>
   intro p hp
   simp only [List.mem_cons, List.not_mem_nil, or_false] at hp
   rcases hp with rfl | rfl | rfl | rfl | rfl | rfl | rfl | rfl | rfl | rfl | rfl | rfl | rfl | rfl
   iterate 12 (exact lasts_pure _)
   ·intro v W W' hb hh
    obtain ⟨o, c, h1, h2⟩ := hh
    exact ⟨o, c, h1, h2.below hb (Nat.le_refl _)⟩
   ·intro v W W' hb hh
    obtain ⟨o, c, h1, h2⟩ := hh
    exact ⟨o, c, h1, h2.below hb (Nat.le_refl _)⟩
  case hstep =>
   intro i hi r w' hag hbel hn
   match i, hi with
   | 0, _ =>
    have e : r.eval (.tmp 1) = .int .i64 kind := (hag.out 1 (by simp)).trans rfl
    exact leaves_val rfl rfl rfl (v := .int .i64 kind) (by generalize r.eval = ρ at e ⊢; go_simp) (Below.refl _ _) rfl
   | 1, _ =>
    have e : r.eval (.tmp 0) = .pointer (some ⟨M.g, 0, none⟩) := (hag.out 0 (by simp)).trans rfl
    exact leaves_val rfl rfl rfl (v := .pointer (some ⟨M.g, 0, none⟩)) (by generalize r.eval = ρ at e ⊢; go_simp) (Below.refl _ _) rfl
   | 2, _ =>
    have e : r.eval (.tmp 12) = .pointer (some ⟨M.g, 0, none⟩) := hn 1 (by simp) ⟨_, rfl, ⟨1, .data⟩, by simp, rfl, rfl⟩
    exact leaves_val rfl rfl rfl (v := .pointer (some ⟨M.g, 0, none⟩)) (by generalize r.eval = ρ at e ⊢; go_simp) (Below.refl _ _) rfl
   | 3, _ =>
    have e : r.eval (.tmp 13) = .pointer (some ⟨M.g, 0, none⟩) := hn 2 (by simp) ⟨_, rfl, ⟨2, .data⟩, by simp, rfl, rfl⟩
    exact leaves_val rfl rfl rfl (v := .pointer (some ⟨M.g, 0, none⟩)) (by generalize r.eval = ρ at e ⊢; go_simp) (Below.refl _ _) rfl
   | 4, _ =>
    have e : r.eval (.tmp 14) = .pointer (some ⟨M.g, 0, none⟩) := hn 3 (by simp) ⟨_, rfl, ⟨3, .data⟩, by simp, rfl, rfl⟩
    have c0 : w'.cell? ⟨M.g, 0, none⟩ = some (.int .i64 d.self) := (hbel.cell (p := ⟨M.g, 0, none⟩) hgl).trans k0
    exact leaves_val rfl rfl rfl (v := .int .i64 d.self) (by generalize r.eval = ρ at e ⊢; go_simp) (Below.refl _ _) rfl
   | 5, _ =>
    have e : r.eval (.tmp 2) = .int .i64 to_ := (hag.out 2 (by simp)).trans rfl
    exact leaves_val rfl rfl rfl (v := .int .i64 to_) (by generalize r.eval = ρ at e ⊢; go_simp) (Below.refl _ _) rfl
   | 6, _ =>
    have e : r.eval (.tmp 3) = .int .i64 seq := (hag.out 3 (by simp)).trans rfl
    exact leaves_val rfl rfl rfl (v := .int .i64 seq) (by generalize r.eval = ρ at e ⊢; go_simp) (Below.refl _ _) rfl
   | 7, _ =>
    have e : r.eval (.tmp 4) = .int .i64 node := (hag.out 4 (by simp)).trans rfl
    exact leaves_val rfl rfl rfl (v := .int .i64 node) (by generalize r.eval = ρ at e ⊢; go_simp) (Below.refl _ _) rfl
   | 8, _ =>
    have e : r.eval (.tmp 0) = .pointer (some ⟨M.g, 0, none⟩) := (hag.out 0 (by simp)).trans rfl
    exact leaves_val rfl rfl rfl (v := .pointer (some ⟨M.g, 0, none⟩)) (by generalize r.eval = ρ at e ⊢; go_simp) (Below.refl _ _) rfl
   | 9, _ =>
    have e : r.eval (.tmp 19) = .pointer (some ⟨M.g, 0, none⟩) := hn 8 (by simp) ⟨_, rfl, ⟨8, .data⟩, by simp, rfl, rfl⟩
    exact leaves_val rfl rfl rfl (v := .pointer (some ⟨M.g, 0, none⟩)) (by generalize r.eval = ρ at e ⊢; go_simp) (Below.refl _ _) rfl
   | 10, _ =>
    have e : r.eval (.tmp 20) = .pointer (some ⟨M.g, 0, none⟩) := hn 9 (by simp) ⟨_, rfl, ⟨9, .data⟩, by simp, rfl, rfl⟩
    exact leaves_val rfl rfl rfl (v := .pointer (some ⟨M.g, 5, none⟩)) (by generalize r.eval = ρ at e ⊢; go_simp) (Below.refl _ _) rfl
   | 11, _ =>
    have e : r.eval (.tmp 21) = .pointer (some ⟨M.g, 5, none⟩) := hn 10 (by simp) ⟨_, rfl, ⟨10, .data⟩, by simp, rfl, rfl⟩
    have c5 : w'.cell? ⟨M.g, 5, none⟩ = some (.pointer (some ⟨M.gt, 0, none⟩)) := (hbel.cell (p := ⟨M.g, 5, none⟩) hgl).trans k5
    exact leaves_val rfl rfl rfl (v := .pointer (some ⟨M.gt, 0, none⟩)) (by generalize r.eval = ρ at e ⊢; go_simp) (Below.refl _ _) rfl
   | 12, _ =>
    have e : r.eval (.tmp 22) = .pointer (some ⟨M.gt, 0, none⟩) := hn 11 (by simp) ⟨_, rfl, ⟨11, .data⟩, by simp, rfl, rfl⟩
    refine leaves_call (f := 50) (args := #[.pointer (some ⟨M.gt, 0, none⟩)]) rfl rfl rfl (by have ef : r.eval (.func 50) = .func (.func 50) #[] #[] := rfl; generalize r.eval = ρ at ef e ⊢; go_simp) (HALL.out w' (HT1.out.keep (hbel.block _ hgtl))) ?_
    rintro e2 w2 ⟨o, c, rfl, ho, hb⟩
    exact ⟨_, rfl, hb, o, c, rfl, ho.lower (by have := hbel.size; omega)⟩
   | 13, _ =>
    have e11 : r.eval (.tmp 11) = .int .i64 kind := hn 0 (by simp) ⟨_, rfl, ⟨0, .data⟩, by simp, rfl, rfl⟩
    have e15 : r.eval (.tmp 15) = .int .i64 d.self := hn 4 (by simp) ⟨_, rfl, ⟨4, .data⟩, by simp, rfl, rfl⟩
    have e16 : r.eval (.tmp 16) = .int .i64 to_ := hn 5 (by simp) ⟨_, rfl, ⟨5, .data⟩, by simp, rfl, rfl⟩
    have e17 : r.eval (.tmp 17) = .int .i64 seq := hn 6 (by simp) ⟨_, rfl, ⟨6, .data⟩, by simp, rfl, rfl⟩
    have e18 : r.eval (.tmp 18) = .int .i64 node := hn 7 (by simp) ⟨_, rfl, ⟨7, .data⟩, by simp, rfl, rfl⟩
    obtain ⟨o, c, e23, ho⟩ : ∃ o c, r.eval (.tmp 23) = .slice o ms.length c ∧ Owns Mb.cells 3 (w.heap.size + 1) 45 w' (.slice o ms.length c) ms := hn 12 (by simp) ⟨_, rfl, ⟨12, .data⟩, by simp, rfl, rfl⟩
    exact leaves_val rfl rfl rfl (v := .agg #[.int .i64 kind, .int .i64 d.self, .int .i64 to_, .int .i64 seq, .int .i64 node, .int .i64 0, .int .i64 0, .int .i64 0, .int .i64 0, .int .i64 0, .int .i64 0, .int .i64 0, .int .i64 0, .slice none 0 0, .slice none 0 0, .slice o ms.length c]) (by generalize r.eval = ρ at e11 e15 e16 e17 e18 e23 ⊢; go_simp) (Below.refl _ _) ⟨o, c, rfl, ho⟩
  case hall =>
   intro j hj
   rcases (show j = 0 ∨ j = 1 ∨ j = 2 ∨ j = 3 ∨ j = 4 ∨ j = 5 ∨ j = 6 ∨ j = 7 ∨ j = 8 ∨ j = 9 ∨ j = 10 ∨ j = 11 ∨ j = 12 ∨ j = 13 by omega) with rfl | rfl | rfl | rfl | rfl | rfl | rfl | rfl | rfl | rfl | rfl | rfl | rfl | rfl
   all_goals exact ⟨_, rfl, ⟨_, .phase⟩, by simp, rfl, rfl⟩
  case hend =>
   intro r w' hag hbel hall
   obtain ⟨o, c, e24, ho⟩ : ∃ o c, r.eval (.tmp 24) = .agg #[.int .i64 kind, .int .i64 d.self, .int .i64 to_, .int .i64 seq, .int .i64 node, .int .i64 0, .int .i64 0, .int .i64 0, .int .i64 0, .int .i64 0, .int .i64 0, .int .i64 0, .int .i64 0, .slice none 0 0, .slice none 0 0, .slice o ms.length c] ∧ Owns Mb.cells 3 (w.heap.size + 1) 45 w' (.slice o ms.length c) ms := hall 13 (by simp)
   have e10 : r.eval (.tmp 10) = .pointer (some ⟨w.heap.size, 0, none⟩) := (hag.out 10 (by simp)).trans rfl
   have hr := (hbel.block w.heap.size (by omega)).trans HR1.out
   refine step_storeRow rfl rfl rfl 42 (.tmp 10) (.tmp 24) rfl w.heap.size _ _ e10 e24 hr (by kernel_rfl) rfl (by simp [Value.oneCell']) ?_
   have hfin := Ag.final _ (by show ∀ d ∈ ([11, 12, 13, 14, 15, 16, 17, 18, 19, 20, 21, 22, 23, 24] : List Nat), d < 25; decide) hag
   simp only [List.map, List.foldl, e24] at hfin
   generalize r.eval (.tmp 11) = y11 at hfin
   generalize r.eval (.tmp 12) = y12 at hfin
   generalize r.eval (.tmp 13) = y13 at hfin
   generalize r.eval (.tmp 14) = y14 at hfin
   generalize r.eval (.tmp 15) = y15 at hfin
   generalize r.eval (.tmp 16) = y16 at hfin
   generalize r.eval (.tmp 17) = y17 at hfin
   generalize r.eval (.tmp 18) = y18 at hfin
   generalize r.eval (.tmp 19) = y19 at hfin
   generalize r.eval (.tmp 20) = y20 at hfin
   generalize r.eval (.tmp 21) = y21 at hfin
   generalize r.eval (.tmp 22) = y22 at hfin
   generalize r.eval (.tmp 23) = y23 at hfin
   have hro := setRow_heap w' w.heap.size _ #[.int .i64 kind, .int .i64 d.self, .int .i64 to_, .int .i64 seq, .int .i64 node, .int .i64 0, .int .i64 0, .int .i64 0, .int .i64 0, .int .i64 0, .int .i64 0, .int .i64 0, .int .i64 0, .slice none 0 0, .slice none 0 0, .slice o ms.length c] _ _ hr
   have hHR := Lib.hid hro
   have HO2 := Lib.hid (ho.keep (w' := w'.setRow w.heap.size #[.int .i64 kind, .int .i64 d.self, .int .i64 to_, .int .i64 seq, .int .i64 node, .int .i64 0, .int .i64 0, .int .i64 0, .int .i64 0, .int .i64 0, .int .i64 0, .int .i64 0, .int .i64 0, .slice none 0 0, .slice none 0 0, .slice o ms.length c]) fun b hb => setRow_other w' w.heap.size b _ (by have := (ho.lt b hb).1; omega))
   have HBB := Lib.hid (HB1.out.trans ((hbel.mono (Nat.le_trans (Nat.le_succ _) (Nat.le_of_eq hsz1.symm))).trans (show Below w.heap.size w' (w'.setRow w.heap.size #[.int .i64 kind, .int .i64 d.self, .int .i64 to_, .int .i64 seq, .int .i64 node, .int .i64 0, .int .i64 0, .int .i64 0, .int .i64 0, .int .i64 0, .int .i64 0, .int .i64 0, .int .i64 0, .slice none 0 0, .slice none 0 0, .slice o ms.length c]) from ⟨rfl, rfl, rfl, by simp [World.setRow], fun k hk => setRow_other w' w.heap.size k _ (by omega)⟩)))
   clear hro ho hr e24 e10 hall hag hbel
   subst hfin
   generalize w'.setRow w.heap.size #[.int .i64 kind, .int .i64 d.self, .int .i64 to_, .int .i64 seq, .int .i64 node, .int .i64 0, .int .i64 0, .int .i64 0, .int .i64 0, .int .i64 0, .int .i64 0, .int .i64 0, .int .i64 0, .slice none 0 0, .slice none 0 0, .slice o ms.length c] = w9 at *
   simp only [Act.put, List.setIfInBounds_toArray, List.set_cons_succ, List.set_cons_zero]
   go_wp2_with fail
   go_meet
   exact ⟨o, c, rfl, hHR.out, HO2.out.lower (by omega), HBB.out⟩
 case rest =>
  obtain ⟨o, c, rfl, HR, HO, HB⟩ := hcut
  go_wp2_with fail
  have hL := run_loadVarAgg (t := 42) (n := 16) (by kernel_rfl) (by kernel_rfl) (load_whole HR.out rfl)
  exact bodyPost_ret (v := .agg #[.int .i64 kind, .int .i64 d.self, .int .i64 to_, .int .i64 seq, .int .i64 node, .int .i64 0, .int .i64 0, .int .i64 0, .int .i64 0, .int .i64 0, .int .i64 0, .int .i64 0, .int .i64 0, .slice none 0 0, .slice none 0 0, .slice o ms.length c]) (run_results_cell rfl rfl hL) rfl ⟨o, c, rfl, HO.out, HB.out⟩
end Go.Proofs.YtejihgfigclppaaGreat
namespace Go.Proofs.YtejihgfigclppaaGreat
open Go.Shelf Go.RowKit Go.Lib Go.Sort
set_option linter.unusedVariables false
set_option linter.unusedSimpArgs false
theorem DetAt.scalar {W : World} {M : DM} {d d' : Det} (h : DetAt W M d) (o : Nat) (v : Value) (hc : (dcells M d).setIfInBounds o v = dcells M d') (e : d'.self = d.self ∧ d'.tab = d.tab ∧ d'.s = d.s ∧ d'.ws = d.ws ∧ d'.since = d.since ∧ d'.pr = d.pr ∧ d'.er = d.er) : DetAt (W.setCell ⟨M.g, o, none⟩ v) M d' := by
 obtain ⟨n1, n2, n3, n4, n5, n6, n7, n8, n9⟩ := nod_ne h.nod
 obtain ⟨e1, e2, e3, e4, e5, e6, e7⟩ := e
 have ho : ∀ k, k ≠ M.g → (W.setCell ⟨M.g, o, none⟩ v).heap[k]? = W.heap[k]? := fun k hk => Below.heap_setCell W ⟨M.g, o, none⟩ _ _ hk
 exact {
  obj := by rw [← hc]; exact heap_setCell_same W M.g o v _ _ _ h.obj
  tab := by rw [e1, e2]; exact h.tab.keep (ho _ n1.symm)
  ord := by rw [e3, e4]; exact h.ord.keep (ho _ n2.symm) fun b hb => ho b (n9 b hb).1
  since := by rw [e5]; exact h.since.kept (ho _ n3.symm)
  prs := by rw [e6]; exact h.prs.keep fun b hb => ho b (n7 b hb).1
  ers := by rw [e7]; exact h.ers.keep fun b hb => ho b (n8 b hb).1
  nod := h.nod }
set_option maxRecDepth 100000 in
set_option maxHeartbeats 8000000 in
theorem contradict_any (M : DM) (d : Det) (ks : Nat) (hks : ks < 8) (hself : d.self = ks) (own : Wd) (ho : d.tab ks = some own) (hi : 0 ≤ own.inc) (w : World) (h : DetAt w M d) (hc : FitsI d.clock) :
  Calls Tryz.prog 41 #[.pointer (some ⟨M.g, 0, none⟩)] w fun e w' => e = .returned (.tuple #[]) ∧ DetAt w' M d.contradict ∧ Touch (fun k => k = M.g ∨ k = M.gt ∨ k = M.gm) w w' := by
 have hp : Tryz.prog.follows .mixedOrders = true := by kernel_rfl
 have hof := fun (W : World) (hW : Below w.heap.size w W) => ofTab_some M.gt d.self d.tab ks hks own ho W (h.tab.keep (hW.block _ h.tab.lt))
 have hcon : d.contradict = if d.left = true ∨ (own.st = 1 ∧ own.inc ≤ d.inc) ∨ 1099511627776 ≤ own.inc then d else Det.hear { d with inc := own.inc + 1 } ⟨d.self, 1, own.inc + 1⟩ := by
  unfold Det.contradict
  rw [hself, Int.toNat_natCast, ho]
 have k0 : w.cell? ⟨M.g, 0, none⟩ = some (.int .i64 ks) := by rw [← hself]; exact h.cell 0
 have k5 : w.cell? ⟨M.g, 5, none⟩ = some (.pointer (some ⟨M.gt, 0, none⟩)) := h.cell 5
 have hgl := h.lt
 have HD := Lib.hid h
 have HOF := Lib.hid hof
 have HCON := Lib.hid hcon
 clear hof hcon h ho
 go_enter Tryz.func41, Tryz.ntmps41
 go_wp2_with fail
 go_cut [2, 3] (fun s2 s3 wx => ∃ b, s2 = .pointer (some ⟨b, 0, none⟩) ∧ s3 = .bool true ∧ b ≠ M.g ∧ Hid (wx.heap[b]? = some (.cells #[.int .i64 ks, .int .i64 own.st, .int .i64 own.inc] 45)) ∧ Hid (Below w.heap.size w wx))
 case first =>
  go_region_law (first | (go_simp; refine (HOF.out _ (by first | exact below_drew (Below.refl _ _) | exact below_drew ((Below.refl _ _).alloc (Nat.le_refl _) _))).mono ?_; rintro e w2 ⟨rfl, hb2⟩; have hbw := hb2; try (have hr2 : w2.heap[w.heap.size]? = some (.cells #[.int .i64 0, .int .i64 0, .int .i64 0] 45) := (hb2.block w.heap.size (by simp [World.drew])).trans (heap_alloc_new w _); have l0 : w2.cell? ⟨w.heap.size, 0, none⟩ = some (.int .i64 0) := cell_of_row w2 _ 0 _ _ _ hr2; have l1 : w2.cell? ⟨w.heap.size, 1, none⟩ = some (.int .i64 0) := cell_of_row w2 _ 1 _ _ _ hr2; have l2 : w2.cell? ⟨w.heap.size, 2, none⟩ = some (.int .i64 0) := cell_of_row w2 _ 2 _ _ _ hr2; have lz : ∀ k, w2.frozen? ⟨w.heap.size, k, none⟩ = false := fun k => by unfold World.frozen?; rw [hr2]; simp)))
  all_goals
   go_wp2_with fail
   go_meet
   first
    | exact ⟨w2.heap.size, rfl, rfl, Nat.ne_of_gt (Nat.lt_of_lt_of_le hgl hbw.size), heap_alloc_new w2 _, ((below_drew (Below.refl w.heap.size w)).trans hbw).alloc hbw.size _⟩
    | exact ⟨w.heap.size, rfl, rfl, Nat.ne_of_gt hgl, heap_cellSame _ _ _ _ _ _ (heap_cellSame _ _ _ _ _ _ (heap_cellSame _ _ _ _ _ _ hr2)), ((((below_drew ((Below.refl w.heap.size w).alloc (Nat.le_refl _) _)).trans (hbw.mono (by simp [World.drew]))).setCell (p := ⟨w.heap.size, 0, none⟩) (Nat.le_refl _) _).setCell (p := ⟨w.heap.size, 1, none⟩) (Nat.le_refl _) _).setCell (p := ⟨w.heap.size, 2, none⟩) (Nat.le_refl _) _⟩
 case rest =>
  obtain ⟨b, rfl, rfl, hbne, HR, HB⟩ := hcut
  have hDc := HD.out.below HB.out
  have HDc := Lib.hid hDc
  have c1 : wc.cell? ⟨M.g, 1, none⟩ = some (.int .i64 d.inc) := hDc.cell 1
  have c0 : wc.cell? ⟨M.g, 0, none⟩ = some (.int .i64 ks) := by rw [← hself]; exact hDc.cell 0
  have c13 : wc.cell? ⟨M.g, 13, none⟩ = some (.bool d.left) := hDc.cell 13
  have z1 := hDc.frozen 1
  have r1 := cell_of_row wc b 1 _ _ _ HR.out
  have r2 := cell_of_row wc b 2 _ _ _ HR.out
  simp only [List.getElem?_toArray, List.getElem?_cons_zero, List.getElem?_cons_succ] at r1 r2
  have hTc : Touch (fun k => k = M.g ∨ k = M.gt ∨ k = M.gm) w wc := Touch.of_below HB.out (Nat.le_refl _)
  have HTc := Lib.hid hTc
  clear hDc hTc k0 k5 HOF HB HD hgl
  obtain ⟨fine, hfine⟩ : ∃ fine, decide (own.st = 1 ∧ own.inc ≤ d.inc) = fine := ⟨_, rfl⟩
  go_wp2_with fail
  go_cut [4] (fun s4 wx => s4 = .bool fine ∧ ∃ q, wx = wc.drewN q)
  case first =>
   by_cases h1 : own.st = 1
   ·have h1b : (own.st == 1) = true := by simpa using h1
    have hf2 : decide (own.inc ≤ d.inc) = fine := by rw [← hfine]; simp [h1]
    clear hfine
    go_quiet (fail)
    go_wp2_with fail
    go_meet
    exact ⟨rfl, _, rfl⟩
   ·have h1b : (own.st == 1) = false := by simpa using h1
    have hf2 : fine = false := by rw [← hfine]; simp [h1]
    subst hf2
    clear hfine
    go_quiet (fail)
    go_wp2_with fail
    go_meet
    exact ⟨rfl, _, rfl⟩
  case rest =>
   obtain ⟨rfl, q, rfl⟩ := hcut
   have hDq : DetAt (wc.drewN q) M d := HDc.out.keep fun _ _ => rfl
   have HDq := Lib.hid hDq
   have e1 : (wc.drewN q).cell? ⟨M.g, 1, none⟩ = some (.int .i64 d.inc) := c1
   have e0 : (wc.drewN q).cell? ⟨M.g, 0, none⟩ = some (.int .i64 ks) := c0
   have e13 : (wc.drewN q).cell? ⟨M.g, 13, none⟩ = some (.bool d.left) := c13
   have f1 : (wc.drewN q).cell? ⟨b, 1, none⟩ = some (.int .i64 own.st) := r1
   have f2 : (wc.drewN q).cell? ⟨b, 2, none⟩ = some (.int .i64 own.inc) := r2
   have g1 : (wc.drewN q).frozen? ⟨M.g, 1, none⟩ = false := z1
   have HTq := Lib.hid (HTc.out.trans (Touch.of_grown (L := fun k => k = M.g ∨ k = M.gt ∨ k = M.gm) (gb_drewN wc q none) (fun j hj => by cases hj)) fun _ _ h => h)
   clear c1 c0 c13 r1 r2 z1 HDc HTc hDq HR
   generalize wc.drewN q = w5 at *
   have hfi : (own.st = 1 ∧ own.inc ≤ d.inc) ↔ fine = true := by rw [← hfine, decide_eq_true_iff]
   have HFI := Lib.hid hfi
   clear hfi hfine
   by_cases hst : d.left = true ∨ (own.st = 1 ∧ own.inc ≤ d.inc) ∨ 1099511627776 ≤ own.inc
   ·have hd : d.contradict = d := by rw [HCON.out, if_pos hst]
    have HDD := Lib.hid hd
    have HST := Lib.hid hst
    clear hst hd HCON
    cases hl : d.left with
    | true =>
     rw [hl] at e13
     go_wp2_with fail
     refine bodyPost_ret (v := .tuple #[]) (by simp [results, Tryz.results41, go_sem]) rfl ⟨rfl, by rw [HDD.out]; exact HDq.out, HTq.out⟩
    | false =>
     rw [hl] at e13
     cases fine with
     | true =>
      go_wp2_with fail
      refine bodyPost_ret (v := .tuple #[]) (by simp [results, Tryz.results41, go_sem]) rfl ⟨rfl, by rw [HDD.out]; exact HDq.out, HTq.out⟩
     | false =>
      have ht : 1099511627776 ≤ own.inc := by
       rcases HST.out with h | h | h
       ·rw [hl] at h; cases h
       ·exact absurd (HFI.out.1 h) (by decide)
       ·exact h
      go_wp2_with fail
      refine bodyPost_ret (v := .tuple #[]) (by simp [results, Tryz.results41, go_sem]) rfl ⟨rfl, by rw [HDD.out]; exact HDq.out, HTq.out⟩
   ·have hd : d.contradict = Det.hear { d with inc := own.inc + 1 } ⟨d.self, 1, own.inc + 1⟩ := by rw [HCON.out, if_neg hst]
    rw [hself] at hd
    have HDD := Lib.hid hd
    have hl : d.left = false := by cases h : d.left with
     | true => exact absurd (.inl h) hst
     | false => rfl
    have hf : fine = false := by cases h : fine with
     | true => exact absurd (.inr (.inl (HFI.out.2 h))) hst
     | false => rfl
    have ht : ¬ 1099511627776 ≤ own.inc := fun h => hst (.inr (.inr h))
    subst hf
    rw [hl] at e13
    have hw : IntKind.i64.wrap (own.inc + 1) = own.inc + 1 := by rw [IntKind.wrap_i64]; omega
    have hD6 := HDq.out.scalar (d' := { d with inc := own.inc + 1 }) 1 (.int .i64 (own.inc + 1)) rfl ⟨rfl, rfl, rfl, rfl, rfl, rfl, rfl⟩
    have i0 : (w5.setCell ⟨M.g, 1, none⟩ (.int .i64 (own.inc + 1))).cell? ⟨M.g, 0, none⟩ = some (.int .i64 ks) := by rw [← hself]; exact hD6.cell 0
    have i1 : (w5.setCell ⟨M.g, 1, none⟩ (.int .i64 (own.inc + 1))).cell? ⟨M.g, 1, none⟩ = some (.int .i64 (own.inc + 1)) := hD6.cell 1
    have hhe := hear_any M { d with inc := own.inc + 1 } ⟨d.self, 1, own.inc + 1⟩ (w5.setCell ⟨M.g, 1, none⟩ (.int .i64 (own.inc + 1))).drew (hD6.keep fun _ _ => rfl) hc
    rw [hself] at hhe
    have hT6 : Touch (fun k => k = M.g ∨ k = M.gt ∨ k = M.gm) w (w5.setCell ⟨M.g, 1, none⟩ (.int .i64 (own.inc + 1))).drew := (HTq.out.trans (touch_set (fun k => k = M.g ∨ k = M.gt ∨ k = M.gm) w5 ⟨M.g, 1, none⟩ _ (.inl rfl)) fun _ _ h => h).trans (Touch.of_grown (L := fun k => k = M.g ∨ k = M.gt ∨ k = M.gm) (gb_drew _ none) (fun j hj => by cases hj)) fun _ _ h => h
    have HHE := Lib.hid hhe
    have HT6 := Lib.hid hT6
    clear hst hd HCON hhe hT6 hD6
    go_wp2_with fail
    clear e0 e1 e13 f1 f2 g1
    go_region_held (fun w' => w'.cell? ⟨M.g, 0, none⟩ = some (.int .i64 ks) ∧ w'.cell? ⟨M.g, 1, none⟩ = some (.int .i64 (own.inc + 1))) (first | exact ⟨i0, i1⟩ | exact ⟨j0, j1⟩) (first | (go_at_call 40; refine HHE.out.mono ?_; rintro e w7 ⟨rfl, hD7, hT7⟩; have j0 : w7.cell? ⟨M.g, 0, none⟩ = some (.int .i64 ks) := (hD7.cell 0).trans (congrArg (fun z => some (Value.int .i64 z)) (hear_self _ _)); have j1 : w7.cell? ⟨M.g, 1, none⟩ = some (.int .i64 (own.inc + 1)) := (hD7.cell 1).trans (congrArg (fun z => some (Value.int .i64 z)) (hear_inc _ _))))
    all_goals
     go_wp2_with fail
     go_end0
     exact ⟨rfl, by rw [HDD.out]; exact hD7, HT6.out.trans hT7 (fun _ _ h => .inr h)⟩
end Go.Proofs.YtejihgfigclppaaGreat
