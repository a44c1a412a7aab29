/-
  What the detector says and contradicts: Of, say, contradict, bury, send walked.
-/
import Derived.Test.YtejihgfigclppaaGreatSwim
import Derived.Test.YtejihgfigclppaaGreatMWhole
namespace Go.Proofs.YtejihgfigclppaaGreat
open Go.Shelf Go.RowKit Go.Lib Go.Sort
set_option linter.unusedVariables false
set_option linter.unusedSimpArgs false
set_option maxHeartbeats 4000000 in
theorem ofTab_some (b : Nat) (self : Int) (t : Tab) (k : Nat) (hk : k < 8) (wd : Wd) (ht : t k = some wd) (w : World) (h : TabAt w b self t) :
    Calls Tryz.prog 79 #[.pointer (some ⟨b, 0, none⟩), .int .i64 (k : Int)] w fun e w' => e = .returned (.tuple #[.agg #[.int .i64 (k : Int), .int .i64 wd.st, .int .i64 wd.inc], .bool true]) ∧ Below w.heap.size w w' := by
  have hlt := h.lt
  have hb1 := (Below.refl w.heap.size w).alloc (Nat.le_refl _) (.cells #[.int .i64 0, .int .i64 0, .int .i64 0] 45)
  have h1 := h.keep (hb1.block b hlt)
  obtain ⟨k1, k2, k3⟩ := h1.word hk ht
  have k0 := (h1.cell (1 + k)).trans (tcells_known self t hk)
  unfold knB at k0
  rw [ht] at k0
  simp only [Option.isSome_some] at k0
  have hkz : (k : Int) < 8 := by omega
  have hr1 := heap_alloc_new w (.cells #[.int .i64 0, .int .i64 0, .int .i64 0] 45)
  have HB1 := Lib.hid hb1
  clear hb1 h1 h
  go_enter Tryz.func79, Tryz.ntmps79
  go_wp2_with fail
  refine bodyPost_ret (v := .tuple #[.agg #[.int .i64 (k : Int), .int .i64 wd.st, .int .i64 wd.inc], .bool true]) (by simp [results, Tryz.results79, go_sem, cell_set, heap_alloc_new]) rfl ⟨rfl, ?_⟩
  exact (Below.refl _ _).alloc (Nat.le_refl _) _
set_option maxHeartbeats 4000000 in
theorem ofTab_none (b : Nat) (self : Int) (t : Tab) (k : Nat) (hk : k < 8) (ht : t k = none) (w : World) (h : TabAt w b self t) :
    Calls Tryz.prog 79 #[.pointer (some ⟨b, 0, none⟩), .int .i64 (k : Int)] w fun e w' => e = .returned (.tuple #[.agg #[.int .i64 0, .int .i64 0, .int .i64 0], .bool false]) ∧ Below w.heap.size w w' := by
  have hlt := h.lt
  have hb1 := (Below.refl w.heap.size w).alloc (Nat.le_refl _) (.cells #[.int .i64 0, .int .i64 0, .int .i64 0] 45)
  have h1 := h.keep (hb1.block b hlt)
  have k0 := (h1.cell (1 + k)).trans (tcells_known self t hk)
  unfold knB at k0
  rw [ht] at k0
  simp only [Option.isSome_none] at k0
  have hkz : (k : Int) < 8 := by omega
  have hr1 := heap_alloc_new w (.cells #[.int .i64 0, .int .i64 0, .int .i64 0] 45)
  clear hb1 h1 h
  go_enter Tryz.func79, Tryz.ntmps79
  go_wp2_with fail
  refine bodyPost_ret (v := .tuple #[.agg #[.int .i64 0, .int .i64 0, .int .i64 0], .bool false]) (by simp [results, Tryz.results79, go_sem, cell_set, heap_alloc_new]) rfl ⟨rfl, ?_⟩
  exact (Below.refl _ _).alloc (Nat.le_refl _) _
set_option maxRecDepth 100000 in
set_option maxHeartbeats 4000000 in
theorem say_any (M : DM) (d : Det) (k : Nat) (hk : k < 8) (st : Int) (w : World) (h : DetAt w M d) (hc : FitsI d.clock) :
    Calls Tryz.prog 83 #[.pointer (some ⟨M.g, 0, none⟩), .int .i64 (k : Int), .int .i64 st] w fun e w' => e = .returned (.tuple #[]) ∧ DetAt w' M (d.say k st) ∧ Touch (fun k => k = M.gt ∨ k = M.gm) w w' := by
  have k5 : w.cell? ⟨M.g, 5, none⟩ = some (.pointer (some ⟨M.gt, 0, none⟩)) := h.cell 5
  have HD := Lib.hid h
  have hgl := h.lt
  have hT := h.tab
  clear h
  cases ht : d.tab k with
  | none =>
    have hof := ofTab_none M.gt d.self d.tab k hk ht w hT
    have hs : d.say k st = d := by unfold Det.say; rw [Int.toNat_natCast, ht]
    rw [hs]
    clear hT ht hs
    go_enter Tryz.func83, Tryz.ntmps83
    go_wp2_with fail
    refine hof.mono ?_
    rintro e w2 ⟨rfl, hb2⟩
    clear k5
    have HB2 := Lib.hid hb2
    clear hb2 hof
    go_wp2_with fail
    go_end0
    have hb := HB2.out.alloc HB2.out.size (.cells #[.int .i64 0, .int .i64 0, .int .i64 0] 45)
    exact ⟨rfl, HD.out.below hb, Touch.of_below hb (Nat.le_refl _)⟩
  | some wd =>
    have hof := ofTab_some M.gt d.self d.tab k hk wd ht w hT
    have hs : d.say k st = d.hear ⟨k, st, wd.inc⟩ := by unfold Det.say; rw [Int.toNat_natCast, ht]
    rw [hs]
    clear hT ht hs
    go_enter Tryz.func83, Tryz.ntmps83
    go_wp2_with fail
    refine hof.mono ?_
    rintro e w2 ⟨rfl, hb2⟩
    clear k5
    have HB2 := Lib.hid hb2
    clear hb2 hof
    go_wp2_with fail
    have hb3 := HB2.out.alloc HB2.out.size (.cells #[.int .i64 k, .int .i64 st, .int .i64 wd.inc] 45)
    refine (hear_any M d ⟨k, st, wd.inc⟩ _ (HD.out.below hb3) hc).mono ?_
    rintro e w4 ⟨rfl, hD4, hT4⟩
    have HD4 := Lib.hid hD4
    have HT4 := Lib.hid ((Touch.of_below (L := fun k => k = M.gt ∨ k = M.gm) hb3 (Nat.le_refl _)).trans hT4 fun _ _ h => h)
    clear hD4 hT4 hb3
    go_wp2_with fail
    go_end0
    exact ⟨rfl, HD4.out, HT4.out⟩
theorem saySelf (d : Det) (k : Nat) (st : Int) : (d.say k st).self = d.self ∧ (d.say k st).c = d.c ∧ (d.say k st).clock = d.clock := by
  unfold Det.say
  split
  · exact ⟨hear_self _ _, hear_c _ _, hear_clock _ _⟩
  · exact ⟨rfl, rfl, rfl⟩
/-- a message as it is sent, its members at o -/
def sentV (m : Sent) (o : Option Addr) (c : Nat) : Value := .agg #[.int .i64 m.kind, .int .i64 m.frm, .int .i64 m.to_, .int .i64 m.seq, .int .i64 m.node, .int .i64 0, .int .i64 0, .int .i64 0, .int .i64 0, .int .i64 0, .int .i64 0, .int .i64 0, .int .i64 0, .slice none 0 0, .slice none 0 0, .slice o m.ms.length c]
set_option maxRecDepth 100000 in
set_option maxHeartbeats 8000000 in
theorem send_any (M : DM) (d : Det) (kind to_ seq node : Int) (w : World) (h : DetAt w M d) :
    Calls Tryz.prog 53 #[.pointer (some ⟨M.g, 0, none⟩), .int .i64 kind, .int .i64 to_, .int .i64 seq, .int .i64 node] w fun e w' => ∃ o c, e = .returned (sentV (d.send kind to_ seq node) o c) ∧ Owns Mb.cells 3 w.heap.size 45 w' (.slice o (allT d.tab).length c) (allT d.tab) ∧ Below w.heap.size w w' := by
  obtain ⟨w1, hw1⟩ : ∃ w1, w.alloc (.cells #[.int .i64 0, .int .i64 0, .int .i64 0, .int .i64 0, .int .i64 0, .int .i64 0, .int .i64 0, .int .i64 0, .int .i64 0, .int .i64 0, .int .i64 0, .int .i64 0, .int .i64 0, .slice none 0 0, .slice none 0 0, .slice none 0 0] 42) = w1 := ⟨_, rfl⟩
  have hb1 : Below w.heap.size w w1 := by rw [← hw1]; exact (Below.refl _ _).alloc (Nat.le_refl _) _
  have hr1 : w1.heap[w.heap.size]? = some (.cells #[.int .i64 0, .int .i64 0, .int .i64 0, .int .i64 0, .int .i64 0, .int .i64 0, .int .i64 0, .int .i64 0, .int .i64 0, .int .i64 0, .int .i64 0, .int .i64 0, .int .i64 0, .slice none 0 0, .slice none 0 0, .slice none 0 0] 42) := by rw [← hw1]; exact heap_alloc_new w _
  have hsz1 : w1.heap.size = w.heap.size + 1 := by rw [← hw1]; exact World.size_alloc _ _
  have hD1 := h.below hb1
  have hgl := hD1.lt
  have hng : M.g ≠ w.heap.size := Nat.ne_of_lt h.lt
  have k0 : w1.cell? ⟨M.g, 0, none⟩ = some (.int .i64 d.self) := hD1.cell 0
  have k5 : w1.cell? ⟨M.g, 5, none⟩ = some (.pointer (some ⟨M.gt, 0, none⟩)) := hD1.cell 5
  have hall := fun W h => all_any M.gt d.self d.tab W h
  have hgtl := hD1.tab.lt
  have HT1 := Lib.hid hD1.tab
  have hs : d.send kind to_ seq node = ⟨kind, d.self, to_, seq, node, allT d.tab⟩ := rfl
  rw [hs]
  generalize hms : allT d.tab = ms at *
  have HALL := Lib.hid hall
  have HW1 := Lib.hid hw1
  have HB1 := Lib.hid hb1
  have HR1 := Lib.hid hr1
  have hp : Tryz.prog.follows .mixedOrders = true := by kernel_rfl
  clear hall hw1 hb1 hr1 hD1 h hms hs
  unfold sentV
  dsimp only
  go_enter Tryz.func53, Tryz.ntmps53
  go_wp2_with fail
  rw [HW1.out]
  go_cut [10] (fun s10 wx => ∃ o c, s10 = .pointer (some ⟨w.heap.size, 0, none⟩) ∧ Hid (wx.heap[w.heap.size]? = some (.cells #[.int .i64 kind, .int .i64 d.self, .int .i64 to_, .int .i64 seq, .int .i64 node, .int .i64 0, .int .i64 0, .int .i64 0, .int .i64 0, .int .i64 0, .int .i64 0, .int .i64 0, .int .i64 0, .slice none 0 0, .slice none 0 0, .slice o ms.length c] 42)) ∧ Hid (Owns Mb.cells 3 w.heap.size 45 wx (.slice o ms.length c) ms) ∧ Hid (Below w.heap.size w wx))
  case first =>
    refine tell_region_last (by kernel_rfl) [(11, fun v _ => v = .int .i64 kind), (12, fun v _ => v = .pointer (some ⟨M.g, 0, none⟩)), (13, fun v _ => v = .pointer (some ⟨M.g, 0, none⟩)), (14, fun v _ => v = .pointer (some ⟨M.g, 0, none⟩)), (15, fun v _ => v = .int .i64 d.self), (16, fun v _ => v = .int .i64 to_), (17, fun v _ => v = .int .i64 seq), (18, fun v _ => v = .int .i64 node), (19, fun v _ => v = .pointer (some ⟨M.g, 0, none⟩)), (20, fun v _ => v = .pointer (some ⟨M.g, 0, none⟩)), (21, fun v _ => v = .pointer (some ⟨M.g, 5, none⟩)), (22, fun v _ => v = .pointer (some ⟨M.gt, 0, none⟩)), (23, fun v W => ∃ o c, v = .slice o ms.length c ∧ Owns Mb.cells 3 (w.heap.size + 1) 45 W (.slice o ms.length c) ms), (24, fun v W => ∃ o c, v = .agg #[.int .i64 kind, .int .i64 d.self, .int .i64 to_, .int .i64 seq, .int .i64 node, .int .i64 0, .int .i64 0, .int .i64 0, .int .i64 0, .int .i64 0, .int .i64 0, .int .i64 0, .int .i64 0, .slice none 0 0, .slice none 0 0, .slice o ms.length c] ∧ Owns Mb.cells 3 (w.heap.size + 1) 45 W (.slice o ms.length c) ms)] 14 rfl rfl (by show ([11, 12, 13, 14, 15, 16, 17, 18, 19, 20, 21, 22, 23, 24] : List Nat).Nodup; decide) (by show ∀ d ∈ ([11, 12, 13, 14, 15, 16, 17, 18, 19, 20, 21, 22, 23, 24] : List Nat), d < 25; decide) (by kernel_rfl) ?hmono ?hstep ?hall ?hend
    case hmono =>
      intro p hp
      simp only [List.mem_cons, List.not_mem_nil, or_false] at hp
      rcases hp with rfl | rfl | rfl | rfl | rfl | rfl | rfl | rfl | rfl | rfl | rfl | rfl | rfl | rfl
      iterate 12 (exact lasts_pure _)
      · intro v W W' hb hh
        obtain ⟨o, c, h1, h2⟩ := hh
        exact ⟨o, c, h1, h2.below hb (Nat.le_refl _)⟩
      · intro v W W' hb hh
        obtain ⟨o, c, h1, h2⟩ := hh
        exact ⟨o, c, h1, h2.below hb (Nat.le_refl _)⟩
    case hstep =>
      intro i hi r w' hag hbel hn
      match i, hi with
      | 0, _ =>
        have e : r.eval (.tmp 1) = .int .i64 kind := (hag.out 1 (by simp)).trans rfl
        exact leaves_val rfl rfl rfl (v := .int .i64 kind) (by generalize r.eval = ρ at e ⊢; go_simp) (Below.refl _ _) rfl
      | 1, _ =>
        have e : r.eval (.tmp 0) = .pointer (some ⟨M.g, 0, none⟩) := (hag.out 0 (by simp)).trans rfl
        exact leaves_val rfl rfl rfl (v := .pointer (some ⟨M.g, 0, none⟩)) (by generalize r.eval = ρ at e ⊢; go_simp) (Below.refl _ _) rfl
      | 2, _ =>
        have e : r.eval (.tmp 12) = .pointer (some ⟨M.g, 0, none⟩) := hn 1 (by simp) ⟨_, rfl, ⟨1, .data⟩, by simp, rfl, rfl⟩
        exact leaves_val rfl rfl rfl (v := .pointer (some ⟨M.g, 0, none⟩)) (by generalize r.eval = ρ at e ⊢; go_simp) (Below.refl _ _) rfl
      | 3, _ =>
        have e : r.eval (.tmp 13) = .pointer (some ⟨M.g, 0, none⟩) := hn 2 (by simp) ⟨_, rfl, ⟨2, .data⟩, by simp, rfl, rfl⟩
        exact leaves_val rfl rfl rfl (v := .pointer (some ⟨M.g, 0, none⟩)) (by generalize r.eval = ρ at e ⊢; go_simp) (Below.refl _ _) rfl
      | 4, _ =>
        have e : r.eval (.tmp 14) = .pointer (some ⟨M.g, 0, none⟩) := hn 3 (by simp) ⟨_, rfl, ⟨3, .data⟩, by simp, rfl, rfl⟩
        have c0 : w'.cell? ⟨M.g, 0, none⟩ = some (.int .i64 d.self) := (hbel.cell (p := ⟨M.g, 0, none⟩) hgl).trans k0
        exact leaves_val rfl rfl rfl (v := .int .i64 d.self) (by generalize r.eval = ρ at e ⊢; go_simp) (Below.refl _ _) rfl
      | 5, _ =>
        have e : r.eval (.tmp 2) = .int .i64 to_ := (hag.out 2 (by simp)).trans rfl
        exact leaves_val rfl rfl rfl (v := .int .i64 to_) (by generalize r.eval = ρ at e ⊢; go_simp) (Below.refl _ _) rfl
      | 6, _ =>
        have e : r.eval (.tmp 3) = .int .i64 seq := (hag.out 3 (by simp)).trans rfl
        exact leaves_val rfl rfl rfl (v := .int .i64 seq) (by generalize r.eval = ρ at e ⊢; go_simp) (Below.refl _ _) rfl
      | 7, _ =>
        have e : r.eval (.tmp 4) = .int .i64 node := (hag.out 4 (by simp)).trans rfl
        exact leaves_val rfl rfl rfl (v := .int .i64 node) (by generalize r.eval = ρ at e ⊢; go_simp) (Below.refl _ _) rfl
      | 8, _ =>
        have e : r.eval (.tmp 0) = .pointer (some ⟨M.g, 0, none⟩) := (hag.out 0 (by simp)).trans rfl
        exact leaves_val rfl rfl rfl (v := .pointer (some ⟨M.g, 0, none⟩)) (by generalize r.eval = ρ at e ⊢; go_simp) (Below.refl _ _) rfl
      | 9, _ =>
        have e : r.eval (.tmp 19) = .pointer (some ⟨M.g, 0, none⟩) := hn 8 (by simp) ⟨_, rfl, ⟨8, .data⟩, by simp, rfl, rfl⟩
        exact leaves_val rfl rfl rfl (v := .pointer (some ⟨M.g, 0, none⟩)) (by generalize r.eval = ρ at e ⊢; go_simp) (Below.refl _ _) rfl
      | 10, _ =>
        have e : r.eval (.tmp 20) = .pointer (some ⟨M.g, 0, none⟩) := hn 9 (by simp) ⟨_, rfl, ⟨9, .data⟩, by simp, rfl, rfl⟩
        exact leaves_val rfl rfl rfl (v := .pointer (some ⟨M.g, 5, none⟩)) (by generalize r.eval = ρ at e ⊢; go_simp) (Below.refl _ _) rfl
      | 11, _ =>
        have e : r.eval (.tmp 21) = .pointer (some ⟨M.g, 5, none⟩) := hn 10 (by simp) ⟨_, rfl, ⟨10, .data⟩, by simp, rfl, rfl⟩
        have c5 : w'.cell? ⟨M.g, 5, none⟩ = some (.pointer (some ⟨M.gt, 0, none⟩)) := (hbel.cell (p := ⟨M.g, 5, none⟩) hgl).trans k5
        exact leaves_val rfl rfl rfl (v := .pointer (some ⟨M.gt, 0, none⟩)) (by generalize r.eval = ρ at e ⊢; go_simp) (Below.refl _ _) rfl
      | 12, _ =>
        have e : r.eval (.tmp 22) = .pointer (some ⟨M.gt, 0, none⟩) := hn 11 (by simp) ⟨_, rfl, ⟨11, .data⟩, by simp, rfl, rfl⟩
        refine leaves_call (f := 50) (args := #[.pointer (some ⟨M.gt, 0, none⟩)]) rfl rfl rfl (by have ef : r.eval (.func 50) = .func (.func 50) #[] #[] := rfl; generalize r.eval = ρ at ef e ⊢; go_simp) (HALL.out w' (HT1.out.keep (hbel.block _ hgtl))) ?_
        rintro e2 w2 ⟨o, c, rfl, ho, hb⟩
        exact ⟨_, rfl, hb, o, c, rfl, ho.lower (by have := hbel.size; omega)⟩
      | 13, _ =>
        have e11 : r.eval (.tmp 11) = .int .i64 kind := hn 0 (by simp) ⟨_, rfl, ⟨0, .data⟩, by simp, rfl, rfl⟩
        have e15 : r.eval (.tmp 15) = .int .i64 d.self := hn 4 (by simp) ⟨_, rfl, ⟨4, .data⟩, by simp, rfl, rfl⟩
        have e16 : r.eval (.tmp 16) = .int .i64 to_ := hn 5 (by simp) ⟨_, rfl, ⟨5, .data⟩, by simp, rfl, rfl⟩
        have e17 : r.eval (.tmp 17) = .int .i64 seq := hn 6 (by simp) ⟨_, rfl, ⟨6, .data⟩, by simp, rfl, rfl⟩
        have e18 : r.eval (.tmp 18) = .int .i64 node := hn 7 (by simp) ⟨_, rfl, ⟨7, .data⟩, by simp, rfl, rfl⟩
        obtain ⟨o, c, e23, ho⟩ : ∃ o c, r.eval (.tmp 23) = .slice o ms.length c ∧ Owns Mb.cells 3 (w.heap.size + 1) 45 w' (.slice o ms.length c) ms := hn 12 (by simp) ⟨_, rfl, ⟨12, .data⟩, by simp, rfl, rfl⟩
        exact leaves_val rfl rfl rfl (v := .agg #[.int .i64 kind, .int .i64 d.self, .int .i64 to_, .int .i64 seq, .int .i64 node, .int .i64 0, .int .i64 0, .int .i64 0, .int .i64 0, .int .i64 0, .int .i64 0, .int .i64 0, .int .i64 0, .slice none 0 0, .slice none 0 0, .slice o ms.length c]) (by generalize r.eval = ρ at e11 e15 e16 e17 e18 e23 ⊢; go_simp) (Below.refl _ _) ⟨o, c, rfl, ho⟩
    case hall =>
      intro j hj
      rcases (show j = 0 ∨ j = 1 ∨ j = 2 ∨ j = 3 ∨ j = 4 ∨ j = 5 ∨ j = 6 ∨ j = 7 ∨ j = 8 ∨ j = 9 ∨ j = 10 ∨ j = 11 ∨ j = 12 ∨ j = 13 by omega) with rfl | rfl | rfl | rfl | rfl | rfl | rfl | rfl | rfl | rfl | rfl | rfl | rfl | rfl
      all_goals exact ⟨_, rfl, ⟨_, .phase⟩, by simp, rfl, rfl⟩
    case hend =>
      intro r w' hag hbel hall
      obtain ⟨o, c, e24, ho⟩ : ∃ o c, r.eval (.tmp 24) = .agg #[.int .i64 kind, .int .i64 d.self, .int .i64 to_, .int .i64 seq, .int .i64 node, .int .i64 0, .int .i64 0, .int .i64 0, .int .i64 0, .int .i64 0, .int .i64 0, .int .i64 0, .int .i64 0, .slice none 0 0, .slice none 0 0, .slice o ms.length c] ∧ Owns Mb.cells 3 (w.heap.size + 1) 45 w' (.slice o ms.length c) ms := hall 13 (by simp)
      have e10 : r.eval (.tmp 10) = .pointer (some ⟨w.heap.size, 0, none⟩) := (hag.out 10 (by simp)).trans rfl
      have hr := (hbel.block w.heap.size (by omega)).trans HR1.out
      refine step_storeRow rfl rfl rfl 42 (.tmp 10) (.tmp 24) rfl w.heap.size _ _ e10 e24 hr (by kernel_rfl) rfl (by simp [Value.oneCell']) ?_
      have hfin := Ag.final _ (by show ∀ d ∈ ([11, 12, 13, 14, 15, 16, 17, 18, 19, 20, 21, 22, 23, 24] : List Nat), d < 25; decide) hag
      simp only [List.map, List.foldl, e24] at hfin
      generalize r.eval (.tmp 11) = y11 at hfin
      generalize r.eval (.tmp 12) = y12 at hfin
      generalize r.eval (.tmp 13) = y13 at hfin
      generalize r.eval (.tmp 14) = y14 at hfin
      generalize r.eval (.tmp 15) = y15 at hfin
      generalize r.eval (.tmp 16) = y16 at hfin
      generalize r.eval (.tmp 17) = y17 at hfin
      generalize r.eval (.tmp 18) = y18 at hfin
      generalize r.eval (.tmp 19) = y19 at hfin
      generalize r.eval (.tmp 20) = y20 at hfin
      generalize r.eval (.tmp 21) = y21 at hfin
      generalize r.eval (.tmp 22) = y22 at hfin
      generalize r.eval (.tmp 23) = y23 at hfin
      have hro := setRow_heap w' w.heap.size _ #[.int .i64 kind, .int .i64 d.self, .int .i64 to_, .int .i64 seq, .int .i64 node, .int .i64 0, .int .i64 0, .int .i64 0, .int .i64 0, .int .i64 0, .int .i64 0, .int .i64 0, .int .i64 0, .slice none 0 0, .slice none 0 0, .slice o ms.length c] _ _ hr
      have hHR := Lib.hid hro
      have HO2 := Lib.hid (ho.keep (w' := w'.setRow w.heap.size #[.int .i64 kind, .int .i64 d.self, .int .i64 to_, .int .i64 seq, .int .i64 node, .int .i64 0, .int .i64 0, .int .i64 0, .int .i64 0, .int .i64 0, .int .i64 0, .int .i64 0, .int .i64 0, .slice none 0 0, .slice none 0 0, .slice o ms.length c]) fun b hb => setRow_other w' w.heap.size b _ (by have := (ho.lt b hb).1; omega))
      have HBB := Lib.hid (HB1.out.trans ((hbel.mono (Nat.le_trans (Nat.le_succ _) (Nat.le_of_eq hsz1.symm))).trans (show Below w.heap.size w' (w'.setRow w.heap.size #[.int .i64 kind, .int .i64 d.self, .int .i64 to_, .int .i64 seq, .int .i64 node, .int .i64 0, .int .i64 0, .int .i64 0, .int .i64 0, .int .i64 0, .int .i64 0, .int .i64 0, .int .i64 0, .slice none 0 0, .slice none 0 0, .slice o ms.length c]) from ⟨rfl, rfl, rfl, by simp [World.setRow], fun k hk => setRow_other w' w.heap.size k _ (by omega)⟩)))
      clear hro ho hr e24 e10 hall hag hbel
      subst hfin
      generalize w'.setRow w.heap.size #[.int .i64 kind, .int .i64 d.self, .int .i64 to_, .int .i64 seq, .int .i64 node, .int .i64 0, .int .i64 0, .int .i64 0, .int .i64 0, .int .i64 0, .int .i64 0, .int .i64 0, .int .i64 0, .slice none 0 0, .slice none 0 0, .slice o ms.length c] = w9 at *
      simp only [Act.put, List.setIfInBounds_toArray, List.set_cons_succ, List.set_cons_zero]
      go_wp2_with fail
      go_meet
      exact ⟨o, c, rfl, hHR.out, HO2.out.lower (by omega), HBB.out⟩
  case rest =>
    obtain ⟨o, c, rfl, HR, HO, HB⟩ := hcut
    go_wp2_with fail
    have hL := run_loadVarAgg (t := 42) (n := 16) (by kernel_rfl) (by kernel_rfl) (load_whole HR.out rfl)
    exact bodyPost_ret (v := .agg #[.int .i64 kind, .int .i64 d.self, .int .i64 to_, .int .i64 seq, .int .i64 node, .int .i64 0, .int .i64 0, .int .i64 0, .int .i64 0, .int .i64 0, .int .i64 0, .int .i64 0, .int .i64 0, .slice none 0 0, .slice none 0 0, .slice o ms.length c]) (run_results_cell rfl rfl hL) rfl ⟨o, c, rfl, HO.out, HB.out⟩
end Go.Proofs.YtejihgfigclppaaGreat
