/-
  The detector asks others to ask: the closure that strikes the target.
  Whom a detector probes; what becomes of a Ping, and of a message that it doesn't answer.
-/
import Derived.Test.YtejihgfigclppaaGreatMSwimG
namespace Go.Proofs.YtejihgfigclppaaGreat
open Go.Shelf Go.RowKit Go.Lib Go.Sort
set_option linter.unusedVariables false
set_option linter.unusedSimpArgs false
set_option maxHeartbeats 4000000 in
theorem aroundFn_any (c g b : Nat) (t x : Int) (W : World) (h0 : W.cell? ⟨c, 0, none⟩ = some (.pointer (some ⟨g, 0, none⟩))) (h1 : W.cell? ⟨g, 9, none⟩ = some (.pointer (some ⟨b, 0, none⟩))) (h2 : W.cell? ⟨b, 1, none⟩ = some (.int .i64 t)) :
  FnGives Tryz.prog 85 #[.pointer (some ⟨c, 0, none⟩)] #[.int .i64 x] (.bool (decide (x = t))) W := by
 have hb : (x == t) = decide (x = t) := by rw [Bool.eq_iff_iff]; simp
 rw [← hb]
 show Calls Tryz.prog 85 #[.int .i64 x, .pointer (some ⟨c, 0, none⟩)] W _
 go_enter Tryz.func85, Tryz.ntmps85
 go_wp2_with fail
 go_ret
 exact ⟨rfl, 0, rfl⟩
set_option maxRecDepth 100000 in
set_option maxHeartbeats 8000000 in
theorem around_none (M : DM) (d : Det) (hok : DetOk d) (w : World) (h : DetAt w M d) (hn : ∀ p, d.pr = some p → d.clock - d.began ≠ d.c.tout) :
  Calls Tryz.prog 47 #[.pointer (some ⟨M.g, 0, none⟩)] w fun e w' => e = .returned (.slice none 0 0) ∧ d.around = (d, []) ∧ Below w.heap.size w w' := by
 have hp : Tryz.prog.follows .mixedOrders = true := by kernel_rfl
 have hb1 := (Below.refl w.heap.size w).alloc (Nat.le_refl _) (.cells #[.pointer (some ⟨M.g, 0, none⟩)] 29)
 have hr1 := heap_alloc_new w (.cells #[.pointer (some ⟨M.g, 0, none⟩)] 29)
 obtain ⟨w1, hw1⟩ : ∃ w1, w.alloc (.cells #[.pointer (some ⟨M.g, 0, none⟩)] 29) = w1 := ⟨_, rfl⟩
 rw [hw1] at hb1 hr1
 have hD := h.below hb1
 have kd : w1.cell? ⟨w.heap.size, 0, none⟩ = some (.pointer (some ⟨M.g, 0, none⟩)) := cell_of_row w1 _ 0 _ _ _ hr1
 have k9 : w1.cell? ⟨M.g, 9, none⟩ = some (prV M.pb) := hD.cell 9
 have k7 : w1.cell? ⟨M.g, 7, none⟩ = some (.int .i64 d.clock) := hD.cell 7
 have k10 : w1.cell? ⟨M.g, 10, none⟩ = some (.int .i64 d.began) := hD.cell 10
 have k2 : w1.cell? ⟨M.g, 2, none⟩ = some (.int .i64 d.c.tout) := hD.cell 2
 have hpr := hD.prs
 have HW1 := Lib.hid hw1
 have HB1 := Lib.hid hb1
 have hcl := hok.clock
 have hbe := hok.began
 have hw : IntKind.i64.wrap (d.clock - d.began) = d.clock - d.began := by rw [IntKind.wrap_i64]; omega
 clear hb1 hr1 hw1 hD h
 cases hd : d.pr with
 | none =>
  rw [hd] at hpr
  have hpb : M.pb = none := by cases hm : M.pb with
   | none => rfl
   | some b => rw [hm] at hpr; exact hpr.elim
  rw [hpb] at k9
  have k9' : w1.cell? ⟨M.g, 9, none⟩ = some (.pointer none) := k9
  have har : d.around = (d, []) := by unfold Det.around; rw [hd]
  have HAR := Lib.hid har
  clear har hpr hd k9 hn hcl hbe
  go_enter Tryz.func47, Tryz.ntmps47
  go_wp2_with fail
  rw [HW1.out]
  go_quiet (fail)
  go_wp2_with fail
  go_ret
  exact ⟨rfl, HAR.out, HB1.out.trans ((below_drewN w1 _).mono HB1.out.size)⟩
 | some p =>
  rw [hd] at hpr
  obtain ⟨b, hpb⟩ : ∃ b, M.pb = some b := by cases hm : M.pb with
   | none => rw [hm] at hpr; exact hpr.elim
   | some b => exact ⟨b, rfl⟩
  rw [hpb] at k9
  have k9' : w1.cell? ⟨M.g, 9, none⟩ = some (.pointer (some ⟨b, 0, none⟩)) := k9
  have hne := hn p hd
  have hneb : ((d.clock - d.began) == d.c.tout) = false := by simpa using hne
  have har : d.around = (d, []) := by unfold Det.around; rw [hd]; exact if_neg hne
  have HAR := Lib.hid har
  clear har hpr hd k9 hn hcl hbe
  go_enter Tryz.func47, Tryz.ntmps47
  go_wp2_with fail
  rw [HW1.out]
  go_quiet (fail)
  go_wp2_with fail
  go_ret
  exact ⟨rfl, HAR.out, HB1.out.trans ((below_drewN w1 _).mono HB1.out.size)⟩
end Go.Proofs.YtejihgfigclppaaGreat
namespace Go.Proofs.YtejihgfigclppaaGreat
open Go.Shelf Go.RowKit Go.Lib Go.Sort
set_option linter.unusedVariables false
set_option linter.unusedSimpArgs false
set_option maxHeartbeats 4000000 in
theorem target_any (M : DM) (d : Det) (w : World) (h : DetAt w M d) : Calls Tryz.prog 36 #[.pointer (some ⟨M.g, 0, none⟩)] w fun e w' => e = .returned (match d.pr with | some p => .tuple #[.int .i64 p.2, .bool true] | none => .tuple #[.int .i64 0, .bool false]) ∧ Below w.heap.size w w' := by
 have k9 : w.cell? ⟨M.g, 9, none⟩ = some (prV M.pb) := h.cell 9
 have hpr := h.prs
 clear h
 cases hd : d.pr with
 | none =>
  rw [hd] at hpr
  have hpb : M.pb = none := by cases hm : M.pb with
   | none => rfl
   | some b => rw [hm] at hpr; exact hpr.elim
  rw [hpb] at k9
  have k9' : w.cell? ⟨M.g, 9, none⟩ = some (.pointer none) := k9
  clear hpr hd k9
  go_enter Tryz.func36, Tryz.ntmps36
  go_wp2_with fail
  go_ret2
  exact ⟨rfl, Below.refl _ _⟩
 | some p =>
  obtain ⟨num, node⟩ := p
  rw [hd] at hpr
  obtain ⟨b, hpb, hprb⟩ : ∃ b, M.pb = some b ∧ w.heap[b]? = some (.cells #[.int .i64 num, .int .i64 node] 130) := by
   cases hm : M.pb with
   | none => rw [hm] at hpr; exact hpr.elim
   | some b => rw [hm] at hpr; exact ⟨b, rfl, hpr⟩
  rw [hpb] at k9
  have k9' : w.cell? ⟨M.g, 9, none⟩ = some (.pointer (some ⟨b, 0, none⟩)) := k9
  have kb : w.cell? ⟨b, 1, none⟩ = some (.int .i64 node) := cell_of_row w b 1 _ _ _ hprb
  clear hpr hd k9 hprb
  go_enter Tryz.func36, Tryz.ntmps36
  go_wp2_with fail
  go_ret2
  exact ⟨rfl, Below.refl _ _⟩
theorem msgs_one {wc w8 : World} {B : Nat} (hB : B ≤ wc.heap.size) (hb : Below wc.heap.size wc w8) (s : Sent) {o : Option Addr} {c : Nat} (ho : Owns Mb.cells 3 wc.heap.size 45 w8 (.slice o s.ms.length c) s.ms) {L : List Nat} (hL : ∀ k ∈ L, k < wc.heap.size) :
  MsgsAt B (w8.alloc (.cells (scells (⟨o, s.ms.length, c⟩, s)).toArray 42)) (.slice (some ⟨w8.heap.size, 0, none⟩) 1 1) [(⟨o, s.ms.length, c⟩, s)] ∧ Aside L (.slice (some ⟨w8.heap.size, 0, none⟩) 1 1) [((⟨o, s.ms.length, c⟩ : Hdr), s)] ∧ Below wc.heap.size wc (w8.alloc (.cells (scells (⟨o, s.ms.length, c⟩, s)).toArray 42)) := by
 refine ⟨⟨(owns_new scells_len w8 (scells (⟨o, s.ms.length, c⟩, s)).toArray 42 [((⟨o, s.ms.length, c⟩ : Hdr), s)] (by simp) (by simp)).lower (Nat.le_trans hB hb.size), fun p hp => ?_⟩, fun k hk hm => ?_, hb.alloc hb.size _⟩
 ·rw [List.mem_singleton] at hp
  subst hp
  exact (ho.below ((Below.refl _ _).alloc (Nat.le_refl _) _) (Nat.le_refl _)).lower hB
 ·have h1 := hL k hm
  rcases hk with hk | ⟨p, hp, hk⟩
  ·have : w8.heap.size = k := by simpa [Value.ownBlock] using hk
   have := hb.size
   omega
  ·rw [List.mem_singleton] at hp
   subst hp
   have := (ho.lt k hk).1
   omega
set_option maxRecDepth 100000 in
set_option maxHeartbeats 8000000 in
theorem ping_any (M : DM) (d : Det) (kind frm to_ seq node : Int) (x0 x1 x2 x3 x4 x5 x6 x7 x8 x9 x10 : Value) (w : World) (h : DetAt w M d) :
  Calls Tryz.prog 42 #[.pointer (some ⟨M.g, 0, none⟩), .agg #[.int .i64 kind, .int .i64 frm, .int .i64 to_, .int .i64 seq, .int .i64 node, x0, x1, x2, x3, x4, x5, x6, x7, x8, x9, x10]] w fun e w' => ∃ v ps, e = .returned v ∧ MsgsAt w.heap.size w' v ps ∧ ps.map (·.2) = [d.send 2 frm seq d.self] ∧ Aside M.own v ps ∧ Below w.heap.size w w' := by
 obtain ⟨w1, hw1⟩ : ∃ w1, w.alloc (.cells #[.int .i64 kind, .int .i64 frm, .int .i64 to_, .int .i64 seq, .int .i64 node, x0, x1, x2, x3, x4, x5, x6, x7, x8, x9, x10] 42) = w1 := ⟨_, rfl⟩
 have hb1 : Below w.heap.size w w1 := by rw [← hw1]; exact (Below.refl _ _).alloc (Nat.le_refl _) _
 have hr1 : w1.heap[w.heap.size]? = some (.cells #[.int .i64 kind, .int .i64 frm, .int .i64 to_, .int .i64 seq, .int .i64 node, x0, x1, x2, x3, x4, x5, x6, x7, x8, x9, x10] 42) := by rw [← hw1]; exact heap_alloc_new w _
 have hD1 := h.below hb1
 have hlt := h.own_lt
 have k0 : w1.cell? ⟨M.g, 0, none⟩ = some (.int .i64 d.self) := hD1.cell 0
 have q1 : w1.cell? ⟨w.heap.size, 1, none⟩ = some (.int .i64 frm) := cell_of_row w1 _ 1 _ _ _ hr1
 have q3 : w1.cell? ⟨w.heap.size, 3, none⟩ = some (.int .i64 seq) := cell_of_row w1 _ 3 _ _ _ hr1
 have hse := send_any M d 2 frm seq d.self w1.drew (hD1.keep fun _ _ => rfl)
 have HSE := Lib.hid hse
 have HW1 := Lib.hid hw1
 have HB1 := Lib.hid hb1
 have HLT := Lib.hid hlt
 have hgl := hD1.lt
 have hll : w.heap.size < w1.heap.size := (Array.getElem?_eq_some_iff.1 hr1).1
 clear hse hw1 hb1 hr1 hD1 h hlt
 go_enter Tryz.func42, Tryz.ntmps42
 go_wp2_with fail
 rw [HW1.out]
 go_cut [4] (fun s4 wx => ∃ ps, Hid (MsgsAt w.heap.size wx s4 ps) ∧ Hid (ps.map (·.2) = [d.send 2 frm seq d.self]) ∧ Hid (Aside M.own s4 ps) ∧ Hid (Below w.heap.size w wx))
 case first =>
  go_region_held (fun w' => w'.cell? ⟨M.g, 0, none⟩ = some (.int .i64 d.self) ∧ w'.cell? ⟨w.heap.size, 1, none⟩ = some (.int .i64 frm) ∧ w'.cell? ⟨w.heap.size, 3, none⟩ = some (.int .i64 seq)) (first | exact ⟨k0, q1, q3⟩ | exact ⟨l0, l1, l3⟩ | exact ⟨((Below.refl w2.heap.size w2).alloc (Nat.le_refl _) _).cell (p := ⟨M.g, 0, none⟩) hg2 |>.trans l0, ((Below.refl w2.heap.size w2).alloc (Nat.le_refl _) _).cell (p := ⟨w.heap.size, 1, none⟩) hl2 |>.trans l1, ((Below.refl w2.heap.size w2).alloc (Nat.le_refl _) _).cell (p := ⟨w.heap.size, 3, none⟩) hl2 |>.trans l3⟩)
   (first | (go_at_call 53; refine HSE.out.mono ?_; rintro e w2 ⟨o, c, rfl, ho, hb⟩; have l0 := (hb.cell (p := ⟨M.g, 0, none⟩) hgl).trans k0; have l1 := (hb.cell (p := ⟨w.heap.size, 1, none⟩) hll).trans q1; have l3 := (hb.cell (p := ⟨w.heap.size, 3, none⟩) hll).trans q3; have hg2 : M.g < w2.heap.size := Nat.lt_of_lt_of_le hgl hb.size; have hl2 : w.heap.size < w2.heap.size := Nat.lt_of_lt_of_le hll hb.size; have HO := Lib.hid ho; have HB := Lib.hid hb; clear ho hb; unfold sentV Det.send; dsimp only))
  all_goals
   go_wp2_with fail
   go_meet
   obtain ⟨m1, m2, m3⟩ := msgs_one (wc := w1.drew) (B := w.heap.size) HB1.out.size HB.out (d.send 2 frm seq d.self) HO.out (L := M.own) (fun k hk => Nat.lt_of_lt_of_le (HLT.out k hk) HB1.out.size)
   exact ⟨_, m1, rfl, m2, (below_drew HB1.out).trans (m3.mono HB1.out.size)⟩
 case rest =>
  obtain ⟨ps, h1, h2, h3, h4⟩ := hcut
  go_wp2_with fail
  go_ret
  exact ⟨_, ps, rfl, h1.out, h2.out, h3.out, h4.out⟩
end Go.Proofs.YtejihgfigclppaaGreat
