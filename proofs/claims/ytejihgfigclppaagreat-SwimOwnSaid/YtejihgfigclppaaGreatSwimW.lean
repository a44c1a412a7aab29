/-
  A tick of the detector.
-/
import Derived.Test.YtejihgfigclppaaGreatSwimU
namespace Go.Proofs.YtejihgfigclppaaGreat
open Go.Shelf Go.RowKit Go.Lib Go.Sort
set_option linter.unusedVariables false
set_option linter.unusedSimpArgs false
theorem MsgsAt.touch {L : Nat → Prop} {base : Nat} {w w' : World} {v : Value} {ps : List PSent} (h : MsgsAt base w v ps) (ht : Touch L w w') (ha : ∀ b, (v.ownBlock = some b ∨ ∃ p ∈ ps, p.1.val.ownBlock = some b) → ¬ L b) : MsgsAt base w' v ps :=
  ⟨h.1.touch ht fun b hb => ha b (.inl hb), fun p hp => (h.2 p hp).touch ht fun b hb => ha b (.inr ⟨p, hp, hb⟩)⟩
theorem MsgsAt.below {B base : Nat} {w w' : World} {v : Value} {ps : List PSent} (h : MsgsAt base w v ps) (hb : Below B w w') (hB : w.heap.size ≤ B) : MsgsAt base w' v ps :=
  ⟨h.1.below hb hB, fun p hp => (h.2 p hp).below hb hB⟩
theorem MsgsAt.lower {base base' : Nat} {w : World} {v : Value} {ps : List PSent} (h : MsgsAt base w v ps) (hb : base' ≤ base) : MsgsAt base' w v ps := ⟨h.1.lower hb, fun p hp => (h.2 p hp).lower hb⟩
theorem MsgsAt.blk {base : Nat} {w : World} {v : Value} {ps : List PSent} (h : MsgsAt base w v ps) (b : Nat) (hb : v.ownBlock = some b ∨ ∃ p ∈ ps, p.1.val.ownBlock = some b) : base ≤ b ∧ b < w.heap.size := by
  rcases hb with hb | ⟨p, hp, hb⟩
  · exact h.1.lt b hb
  · exact (h.2 p hp).lt b hb
theorem around_any (M : DM) (d : Det) (hok : DetOk d) (w : World) (h : DetAt w M d) :
    Calls Tryz.prog 47 #[.pointer (some ⟨M.g, 0, none⟩)] w fun e w' => ∃ v ps, e = .returned v ∧ DetAt w' M d.around.1 ∧ MsgsAt w.heap.size w' v ps ∧ ps.map (·.2) = d.around.2 ∧ Aside M.own v ps ∧ w.grownBy w' (some M.go) := by
  by_cases hc : ∀ p, d.pr = some p → d.clock - d.began ≠ d.c.tout
  · refine (around_none M d hok w h hc).mono ?_
    rintro e w' ⟨rfl, ha, hb⟩
    rw [ha]
    exact ⟨_, [], rfl, h.below hb, MsgsAt.none _ _, rfl, Aside.none _, gb_below (World.grownBy.refl _ _) hb (Nat.le_refl _)⟩
  · cases hp : d.pr with
    | none => exact absurd (fun p e => by rw [hp] at e; cases e) hc
    | some p =>
      obtain ⟨num, t⟩ := p
      by_cases ht : d.clock - d.began = d.c.tout
      · exact around_some M d hok num t hp ht w h
      · exact absurd (fun p e => ht) hc
theorem someL_len (s : Int) (l : List Int) (n : Int) : (someL s l n).length ≤ l.length := by
  unfold someL
  rw [List.length_take, shufL_len]
  have := onceL_len l
  omega
theorem around_len (d : Det) : d.around.2.length ≤ 8 := by
  unfold Det.around
  split
  · exact Nat.zero_le _
  · split
    · rename_i p _ _
      show ((someL d.s (d.aroundL p.2) d.c.ind).map _).length ≤ 8
      rw [List.length_map]
      have h1 := someL_len d.s (d.aroundL p.2) d.c.ind
      have h2 : (d.aroundL p.2).length ≤ (othersT d.self d.tab).length := List.length_filter_le _ _
      have h3 := othersT_len d.self d.tab
      omega
    · exact Nat.zero_le _
theorem begin_len (d : Det) : d.begin.2.length ≤ 1 := by
  unfold Det.begin
  split
  · exact Nat.zero_le _
  · split
    · exact Nat.zero_le _
    · exact Nat.le_refl _
set_option maxRecDepth 100000 in
set_option maxHeartbeats 16000000 in
theorem tick_any (M : DM) (d : Det) (hok : DetOk d) (hc : d.clock < 1000000) (hn : d.num < 1000000) (w : World) (h : DetAt w M d) :
    Calls Tryz.prog 15 #[.pointer (some ⟨M.g, 0, none⟩)] w fun e w' => ∃ v M' ps, e = .returned v ∧ DetAt w' M' d.tick.1 ∧ MsgsAt w.heap.size w' v ps ∧ ps.map (·.2) = d.tick.2 ∧ Aside M'.own v ps ∧ NewM M M' w ∧ Touch (fun k => k = M.g ∨ k = M.gt ∨ k = M.go ∨ k = M.gm) w w' := by
  have hp : Tryz.prog.follows .mixedOrders = true := by kernel_rfl
  have k13 : w.cell? ⟨M.g, 13, none⟩ = some (.bool d.left) := h.cell 13
  have k7 : w.cell? ⟨M.g, 7, none⟩ = some (.int .i64 d.clock) := h.cell 7
  have z7 := h.frozen 7
  have hcl := hok.clock
  have hw : IntKind.i64.wrap (d.clock + 1) = d.clock + 1 := by rw [IntKind.wrap_i64]; omega
  have HD := Lib.hid h
  cases hl : d.left with
  | true =>
    rw [hl] at k13
    have ht : d.tick = (d, []) := by unfold Det.tick; rw [hl]; rfl
    have HT := Lib.hid ht
    clear ht h hcl hw k7 z7
    go_enter Tryz.func15, Tryz.ntmps15
    go_wp2_with fail
    go_ret
    exact ⟨_, M, [], rfl, by rw [HT.out]; exact HD.out, MsgsAt.none _ _, by rw [HT.out]; rfl, Aside.none _, NewM.refl _ _, Touch.refl _ _⟩
  | false =>
    rw [hl] at k13
    have ht : d.tick = ((Det.bury { d with clock := d.clock + 1 }).around.1.give.begin.1, (Det.bury { d with clock := d.clock + 1 }).around.2 ++ (Det.bury { d with clock := d.clock + 1 }).around.1.give.begin.2) := by unfold Det.tick; rw [hl]; rfl
    have HT := Lib.hid ht
    have hD1 := h.scalar (d' := { d with clock := d.clock + 1 }) 7 (.int .i64 (d.clock + 1)) rfl ⟨rfl, rfl, rfl, rfl, rfl, rfl, rfl⟩
    have hok1 := hok.ticks hc
    have hbu := bury_any M _ hok1 _ hD1
    have HBU := Lib.hid hbu
    have HK1 := Lib.hid hok1.bury
    have hT1 := touch_set (fun k => k = M.g ∨ k = M.gt ∨ k = M.go ∨ k = M.gm) w ⟨M.g, 7, none⟩ (.int .i64 (d.clock + 1)) (.inl rfl)
    have HT1 := Lib.hid hT1
    have hs1 : (w.setCell ⟨M.g, 7, none⟩ (.int .i64 (d.clock + 1))).heap.size = w.heap.size := by simp [World.setCell]
    clear ht hD1 hbu hT1 h hok1 hcl
    go_enter Tryz.func15, Tryz.ntmps15
    go_wp2_with fail
    generalize w.setCell ⟨M.g, 7, none⟩ (.int .i64 (d.clock + 1)) = w1 at *
    refine HBU.out.mono ?_
    rintro e w2 ⟨rfl, hD2, hT2⟩
    have HAR := Lib.hid (around_any M _ HK1.out w2 hD2)
    have HT2 := Lib.hid (HT1.out.trans hT2 fun _ _ h => h.elim (fun h => .inr (.inl h)) (fun h => .inr (.inr (.inr h))))
    clear hT2 hD2 HBU HT1 k13 k7 z7 hw
    generalize Det.bury { d with clock := d.clock + 1 } = d2 at *
    go_wp2_with fail
    refine HAR.out.mono ?_
    rintro e w3 ⟨v3, ps3, rfl, hD3, hM3, hP3, hA3, hg3⟩
    obtain ⟨o3, c3, rfl⟩ := slAt_slice hM3.1.at
    have hT3 := HT2.out.trans (Touch.of_grown (L := fun k => k = M.g ∨ k = M.gt ∨ k = M.go ∨ k = M.gm) hg3 fun j hj => .inr (.inr (.inl (Option.some.inj hj).symm))) fun _ _ h => h
    have hok3 := HK1.out.around
    have hs3 : w2.heap.size ≤ w3.heap.size := hg3.size
    have hs2 : w.heap.size ≤ w2.heap.size := HT2.out.size
    have hgi := give_any M _ hok3 w3 hD3
    have HGI := Lib.hid hgi
    have HM3 := Lib.hid hM3
    have HA3 := Lib.hid hA3
    have HP3 := Lib.hid hP3
    have HT3 := Lib.hid hT3
    have HK3 := Lib.hid hok3.give
    have hl3 : d2.around.2.length ≤ 8 := around_len d2
    have hn3 : d2.around.1.num = d2.num := (same_around d2).num
    have hlt3 := Lib.hid hD3.own_lt
    clear hgi hM3 hA3 hP3 hT3 hok3 hD3 hg3 HAR HT2 HK1
    generalize d2.around = dd3 at *
    obtain ⟨d3, l3⟩ := dd3
    dsimp only at *
    go_wp2_with fail
    refine HGI.out.mono ?_
    rintro e w4 ⟨rfl, M4, hD4, hN4, hT4⟩
    have hM4 := HM3.out.touch hT4 fun b hb hL => HA3.out b hb (by
      rcases hL with e | e | e
      · rw [e]; exact M.mem_g
      · rw [e]; exact M.mem_gt
      · rw [e]; exact M.mem_gm)
    have hA4 : Aside M4.own (.slice o3 ps3.length c3) ps3 := fun b hb hm => by
      rcases hN4.own b hm with e | e
      · exact HA3.out b hb e
      · have := (HM3.out.blk b hb).2; omega
    have hT4' := HT3.out.trans hT4 fun _ _ h => h.elim .inl fun h => .inr (h.elim .inl fun h => .inr (.inr h))
    have hs4 : w3.heap.size ≤ w4.heap.size := hT4.size
    have hbe := begin_any M4 _ HK3.out w4 hD4
    have HBE := Lib.hid hbe
    have HM4 := Lib.hid hM4
    have HA4 := Lib.hid hA4
    have HT4 := Lib.hid hT4'
    have HN4 := Lib.hid hN4
    clear hbe hM4 hA4 hT4 hT4' hN4 hD4 HGI HM3 HA3 HT3 HK3
    generalize d3.give = d4 at *
    have hg4 : M4.g = M.g := HN4.out.g
    have hgo4 : M4.go = M.go := HN4.out.go
    rw [hg4] at HBE
    go_wp2_with fail
    refine HBE.out.mono ?_
    rintro e w5 ⟨M5, v5, ps5, rfl, hD5, hM5, hP5, hA5, hN5, hT5⟩
    obtain ⟨o5, c5, rfl⟩ := slAt_slice hM5.1.at
    have hM4' := HM4.out.touch hT5 fun b hb hL => HA4.out b hb (by
      rcases hL with e | e
      · rw [e, ← hg4]; exact M4.mem_g
      · rw [e]; exact M4.mem_go)
    have hA4' : Aside M5.own (.slice o3 ps3.length c3) ps3 := fun b hb hm => by
      rcases hN5.own b hm with e | e
      · exact HA4.out b hb e
      · have := (HM4.out.blk b hb).2; omega
    have hT5' : Touch (fun k => k = M.g ∨ k = M.gt ∨ k = M.go ∨ k = M.gm) w w5 := HT4.out.trans hT5 fun _ _ h => h.elim .inl fun h => .inr (.inr (.inl (by rw [h, hgo4])))
    have hl5 := begin_len d4
    rw [← hP5, List.length_map] at hl5
    have hl3' : ps3.length ≤ 8 := by have := hl3; rw [← HP3.out, List.length_map] at this; exact this
    have hs5 : w4.heap.size ≤ w5.heap.size := hT5.size
    have HM5 := Lib.hid hM5
    have HM4' := Lib.hid hM4'
    have HA4' := Lib.hid hA4'
    have HA5 := Lib.hid hA5
    have HT5 := Lib.hid hT5'
    have HD5 := Lib.hid hD5
    have HP5 := Lib.hid hP5
    have HN5 := Lib.hid ((NewM.refl M w3).trans HN4.out (Nat.le_refl _) |>.trans hN5 hs4)
    clear hM5 hM4' hA4' hA5 hT5 hT5' hD5 hP5 hN5 HM4 HA4 HT4 HN4 HBE
    go_wp2_with (at_builtin; refine wpList_app scells 16 scells_len (by decide) scells_one _ rfl _ _ 34 rfl w2.heap.size 42 _ 176 Tryz.underlying34 infoMsg rfl _ ps3 rfl ?h1 _ ps5 rfl ?h2 ?h3 ?h4 ?h5 ?_)
    case h1 => exact HM4'.out.1
    case h2 => exact HM5.out.1.at
    case h3 => omega
    case h4 => omega
    case h5 => omega
    intro v6 w6 hown6 hg6 hv6
    have hmm := msgs_app (HM4'.out) (fun p hp => ((HM5.out.2 p hp).lower (by omega))) hown6 hg6
    obtain ⟨o6, c6, rfl⟩ := slAt_slice hown6.at
    have hrow : ∀ k, (Value.slice o3 ps3.length c3).ownBlock = some k → w2.heap.size ≤ k := fun k hk => (HM4'.out.1.lt k hk).1
    have hD6 := HD5.out.keep (W' := w6) fun k hk => hg6.block k (HD5.out.own_lt k hk) fun e => HA4'.out k (.inl e.symm) hk
    have hA6 : Aside M5.own (.slice o6 (ps3 ++ ps5).length c6) (ps3 ++ ps5) := fun b hb hm => by
      rcases hb with hb | ⟨p, hp, hb⟩
      · rcases hv6 with e | e
        · rw [e] at hb; exact HA4'.out b (.inl hb) hm
        · have := e b hb; have := HD5.out.own_lt b hm; omega
      · rcases List.mem_append.1 hp with hp | hp
        · exact HA4'.out b (.inr ⟨p, hp, hb⟩) hm
        · exact HA5.out b (.inr ⟨p, hp, hb⟩) hm
    have hT6 : Touch (fun k => k = M.g ∨ k = M.gt ∨ k = M.go ∨ k = M.gm) w w6 := HT5.out.trans (Touch.of_grown (L := fun k => w2.heap.size ≤ k) hg6 fun j hj => hrow j hj) fun n hn hL => absurd hL (by show ¬ w2.heap.size ≤ n; omega)
    have HD6 := Lib.hid hD6
    have HA6 := Lib.hid hA6
    have HT6 := Lib.hid hT6
    have HM6 := Lib.hid (hmm.lower hs2)
    have HN6 : Hid (NewM M M5 w) := ⟨HN5.out.g, HN5.out.gt, HN5.out.go, HN5.out.gm, fun k hk => (HN5.out.own k hk).elim .inl fun e => .inr (by omega)⟩
    have HP6 : Hid ((ps3 ++ ps5).map (·.2) = l3 ++ d4.begin.2) := by
      show (ps3 ++ ps5).map (·.2) = _
      rw [List.map_append, HP3.out, HP5.out]
    clear hD6 hA6 hT6 hmm hown6 hg6 hv6 hrow HM5 HM4' HA4' HA5 HT5 HD5 HN5
    go_wp2_with fail
    go_ret
    exact ⟨_, M5, ps3 ++ ps5, rfl, by rw [HT.out]; exact HD6.out, HM6.out, by rw [HT.out]; exact HP6.out, HA6.out, HN6.out, HT6.out⟩
end Go.Proofs.YtejihgfigclppaaGreat
