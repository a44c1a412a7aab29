/-
  The law's own example of a book, walked.
-/
import Derived.Test.YtidiapgdgoeplaaAlive08P
import Derived.Test.YtidiapgdgoeplaaBookAdd
import Derived.Test.YtidiapgdgoeplaaBookSeen
import Derived.Test.YtidiapgdgoeplaaBookAll
namespace Go.Proofs.Ytidiapgdgoeplaa
open Go.Shelf Go.RowKit Go.Lib Go.Sort
set_option linter.unusedVariables false
set_option maxHeartbeats 2000000 in
theorem addNil_any (hd : Hdr) (ev : Ev) (w : World) : Calls Try.prog 9 #[.pointer none, .agg #[.int .i64 ev.dot.node, .int .i64 ev.dot.seq, .int .i64 ev.time, .int .i64 ev.kind, .int .i64 ev.work, .int .i64 ev.value, .int .i64 ev.pol.mn, .int .i64 ev.pol.mx, .int .i64 ev.pol.goal, .int .i64 ev.pol.slack, .int .i64 ev.pol.up, .int .i64 ev.pol.down, .int .i64 ev.pol.cool, hd.val]] w fun e w' => e = .returned (.int .i64 1) ∧ Below w.heap.size w w' := by
  go_enter Try.func9, Try.ntmps9
  go_wp2_with fail
  go_ret
  exact ⟨rfl, (Below.refl _ _).alloc (Nat.le_refl _) _⟩
theorem alloc4 (w : World) (o0 o1 o2 o3 : Obj) : ((((w.alloc o0).alloc o1).alloc o2).alloc o3).heap[w.heap.size + 1]? = some o1 ∧ ((((w.alloc o0).alloc o1).alloc o2).alloc o3).heap[w.heap.size + 1 + 1]? = some o2 ∧ ((((w.alloc o0).alloc o1).alloc o2).alloc o3).heap[w.heap.size + 1 + 1 + 1]? = some o3 ∧
    Below w.heap.size w ((((w.alloc o0).alloc o1).alloc o2).alloc o3) ∧ ((((w.alloc o0).alloc o1).alloc o2).alloc o3).heap.size = w.heap.size + 4 := by
  have s1 : (w.alloc o0).heap.size = w.heap.size + 1 := World.size_alloc _ _
  have s2 : ((w.alloc o0).alloc o1).heap.size = w.heap.size + 1 + 1 := by rw [World.size_alloc, s1]
  have s3 : (((w.alloc o0).alloc o1).alloc o2).heap.size = w.heap.size + 1 + 1 + 1 := by rw [World.size_alloc, s2]
  refine ⟨?_, ?_, ?_, ((((Below.refl _ _).alloc (Nat.le_refl _) _).alloc (by omega) _).alloc (by omega) _).alloc (by omega) _, by rw [World.size_alloc, s3]⟩
  · rw [Below.heap_alloc _ _ _ (by omega), Below.heap_alloc _ _ _ (by omega), ← s1, heap_alloc_new]
  · rw [Below.heap_alloc _ _ _ (by omega), ← s2, heap_alloc_new]
  · rw [← s3, heap_alloc_new]
/-- the example's cells -/
def xRow : Obj := .cells #[.int .i64 0, .int .i64 1, .int .i64 1, .int .i64 2, .int .i64 0, .int .i64 0, .int .i64 0, .int .i64 1, .int .i64 1, .int .i64 0, .int .i64 1, .int .i64 1, .int .i64 0, .slice none 0 0] 33
def CutAt (b : Act) (F : World → Prop) : Exit → Act → World → Prop
  | .normal, a, w => a = b ∧ F w
  | _, _, _ => False
theorem wp_cut {P : Program} {c : Code} {Q : Exit → Act → World → Prop} {a : Act} {w : World} (A : Act → Act) (F : World → Prop) (h1 : c.wp P (CutAt (A a) F) a w) (h2 : ∀ w', F w' → Q .normal (A a) w') : c.wp P Q a w :=
  Code.wp_mono (fun e a' w' h => by
    cases e with
    | normal => obtain ⟨rfl, h⟩ := h; exact h2 w' h
    | _ => exact h.elim) h1
set_option maxRecDepth 100000 in
set_option maxHeartbeats 16000000 in
theorem alive08_any (w : World) : Calls Try.prog 6 #[] w fun e w' => e = .returned (.bool true) ∧ Below w.heap.size w w' := by
  go_enter Try.func6, Try.ntmps6
  go_wp2_with fail
  refine (bookNew_any w).mono ?_
  rintro e w1 ⟨bb, ms, mh, B, rfl, hbk, hb1, l1, l2, l3⟩
  have HBK := Lib.hid hbk
  have HB1 := Lib.hid hb1
  clear hbk hb1
  go_wp2_with fail
  obtain ⟨r1, r2, r3, hb4, hs4⟩ := alloc4 w1 (.cells #[.int .i64 0, .int .i64 1, .int .i64 1, .int .i64 0, .int .i64 1, .int .i64 1, .int .i64 0] 30) (.cells #[.int .i64 0, .int .i64 1, .int .i64 1, .int .i64 2, .int .i64 0, .int .i64 0, .int .i64 0, .int .i64 1, .int .i64 1, .int .i64 0, .int .i64 1, .int .i64 1, .int .i64 0, .slice none 0 0] 33) (.cells #[.int .i64 0, .int .i64 1] 28) (.cells #[.int .i64 1, .int .i64 1, .int .i64 2, .int .i64 2, .int .i64 0, .int .i64 0, .int .i64 0, .int .i64 1, .int .i64 1, .int .i64 0, .int .i64 1, .int .i64 1, .int .i64 0, .slice (some ⟨w1.heap.size + 1 + 1, 0, none⟩) 1 1] 33)
  generalize ((((w1.alloc (.cells #[.int .i64 0, .int .i64 1, .int .i64 1, .int .i64 0, .int .i64 1, .int .i64 1, .int .i64 0] 30)).alloc (.cells #[.int .i64 0, .int .i64 1, .int .i64 1, .int .i64 2, .int .i64 0, .int .i64 0, .int .i64 0, .int .i64 1, .int .i64 1, .int .i64 0, .int .i64 1, .int .i64 1, .int .i64 0, .slice none 0 0] 33)).alloc (.cells #[.int .i64 0, .int .i64 1] 28)).alloc (.cells #[.int .i64 1, .int .i64 1, .int .i64 2, .int .i64 2, .int .i64 0, .int .i64 0, .int .i64 0, .int .i64 1, .int .i64 1, .int .i64 0, .int .i64 1, .int .i64 1, .int .i64 0, .slice (some ⟨w1.heap.size + 1 + 1, 0, none⟩) 1 1] 33)) = w4 at *
  have hsl : ∀ W : World, W.heap[w1.heap.size + 1 + 1]? = some (.cells #[.int .i64 0, .int .i64 1] 28) → SlAt Dot.cells W (.slice (some ⟨w1.heap.size + 1 + 1, 0, none⟩) 1 1) [⟨0, 1⟩] := fun W h => SlAt.lay (enc := Dot.cells) (l := [(⟨0, 1⟩ : Dot)]) (by decide) fun j u hu => by
    rw [Nat.zero_add, cell_of_row _ _ j _ _ _ h]
    simpa [Dot.cells] using hu
  have hlb := HBK.out.ltb
  have hls := HBK.out.lts
  have hlh := HBK.out.lth
  have hBw := HBK.out.size
  have hbk4 : BookAt w4.drew bb ms mh B BookS.new := (HBK.out.below hb4 (Nat.le_refl _)).below (below_drew (Below.refl _ _)) (Nat.le_refl _)
  have aX := fun o => cell_of_row w4.drew (w1.heap.size + 1) o _ _ _ r1
  have aY := fun o => cell_of_row w4.drew (w1.heap.size + 1 + 1 + 1) o _ _ _ r3
  have hx := bookAdd_any bb ms mh B BookS.new ⟨none, 0, 0⟩ xA8 w4.drew hbk4 (SlAt.nil _ _) (by decide) (.inl rfl) (by show _ ≤ (0 : Int) ∧ (0 : Int) ≤ _; omega)
  simp only [addA8_1] at hx
  have HX := Lib.hid hx
  have R1 := Lib.hid r1
  have R2 := Lib.hid r2
  have R3 := Lib.hid r3
  have HS := Lib.hid hsl
  have HB4 := Lib.hid (below_drew (HB1.out.trans (hb4.mono (by have := HB1.out.size; omega))))
  clear hx r1 r2 r3 hsl hb4 hbk4
  refine wp_cut (fun a => (((((((a.put (some 24) (.pointer (some ⟨bb, 0, none⟩))).put (some 25) (.agg #[.int .i64 0, .int .i64 1, .int .i64 1, .int .i64 2, .int .i64 0, .int .i64 0, .int .i64 0, .int .i64 1, .int .i64 1, .int .i64 0, .int .i64 1, .int .i64 1, .int .i64 0, .slice none 0 0])).put (some 26) (.int .i64 0)).put (some 27) (.pointer (some ⟨bb, 0, none⟩))).put (some 28) (.agg #[.int .i64 1, .int .i64 1, .int .i64 2, .int .i64 2, .int .i64 0, .int .i64 0, .int .i64 0, .int .i64 1, .int .i64 1, .int .i64 0, .int .i64 1, .int .i64 1, .int .i64 0, .slice (some ⟨w1.heap.size + 1 + 1, 0, none⟩) 1 1])).put (some 29) (.int .i64 0)).put (some 5) (.int .i64 0)).put (some 6) (.int .i64 0))
    (fun w6 => w4.heap.size ≤ w6.heap.size ∧ w6.heap[w1.heap.size + 1]? = some (.cells #[.int .i64 0, .int .i64 1, .int .i64 1, .int .i64 2, .int .i64 0, .int .i64 0, .int .i64 0, .int .i64 1, .int .i64 1, .int .i64 0, .int .i64 1, .int .i64 1, .int .i64 0, .slice none 0 0] 33) ∧ w6.heap[w1.heap.size + 1 + 1 + 1]? = some (.cells #[.int .i64 1, .int .i64 1, .int .i64 2, .int .i64 2, .int .i64 0, .int .i64 0, .int .i64 0, .int .i64 1, .int .i64 1, .int .i64 0, .int .i64 1, .int .i64 1, .int .i64 0, .slice (some ⟨w1.heap.size + 1 + 1, 0, none⟩) 1 1] 33) ∧ Below w.heap.size w w6 ∧ BookAt w6 bb ms mh B S2A8) ?_ ?_
  next =>
    go_region_law (first
      | (go_simp
         refine HX.out.mono ?_
         rintro e w5 ⟨rfl, hbk5, ht5⟩
         have hz5 : w4.heap.size ≤ w5.heap.size := ht5.size
         have x5 := (ht5.block (w1.heap.size + 1) (by show _ < w4.heap.size; omega) (by omega) (by omega) (by omega)).trans R1.out
         have l5 := (ht5.block (w1.heap.size + 1 + 1) (by show _ < w4.heap.size; omega) (by omega) (by omega) (by omega)).trans R2.out
         have y5 := (ht5.block (w1.heap.size + 1 + 1 + 1) (by show _ < w4.heap.size; omega) (by omega) (by omega) (by omega)).trans R3.out
         have bY := fun o => cell_of_row w5 (w1.heap.size + 1 + 1 + 1) o _ _ _ y5
         have hy := bookAdd_any bb ms mh B S1A8 ⟨some ⟨w1.heap.size + 1 + 1, 0, none⟩, 1, 1⟩ yA8 w5 hbk5 (HS.out w5 l5) (by decide) (.inr fun b hb => by simp [Hdr.val, Value.ownBlock] at hb; omega) (by show _ ≤ (1 : Int) ∧ (1 : Int) ≤ _; omega)
         simp only [addA8_2] at hy
         have HY := Lib.hid hy
         have HB5 := Lib.hid (HB4.out.trans (ht5.below (C := w.heap.size) (by omega) (by omega) (by omega) (by show _ ≤ w4.heap.size; have := HB1.out.size; omega)))
         have X5 := Lib.hid x5
         have Y5 := Lib.hid y5
         clear hy x5 l5 y5 hbk5 ht5 HX)
      | (go_simp
         refine HY.out.mono ?_
         rintro e w6 ⟨rfl, hbk6, ht6⟩
         have hz6 : w5.heap.size ≤ w6.heap.size := ht6.size
         have X6 := Lib.hid ((ht6.block (w1.heap.size + 1) (by omega) (by omega) (by omega) (by omega)).trans X5.out)
         have Y6 := Lib.hid ((ht6.block (w1.heap.size + 1 + 1 + 1) (by omega) (by omega) (by omega) (by omega)).trans Y5.out)
         have HB6 := Lib.hid (HB5.out.trans (ht6.below (C := w.heap.size) (by omega) (by omega) (by omega) (by have := HB1.out.size; omega)))
         have HBK6 := Lib.hid hbk6
         clear hbk6 ht6 HY))
    all_goals
      exact ⟨by kernel_rfl, by omega, X6.out, Y6.out, HB6.out, HBK6.out⟩
  rintro w6 ⟨hz6, hx6, hy6, hb6, hbk6⟩
  have X6 := Lib.hid hx6
  have Y6 := Lib.hid hy6
  have HB6 := Lib.hid hb6
  have HBK6 := Lib.hid hbk6
  clear hx6 hy6 hb6 hbk6 HX HB4 R1 R2 R3 HS HBK aX aY
  simp only [Act.put, List.setIfInBounds_toArray, List.set_cons_succ, List.set_cons_zero]
  go_wp2_with fail
  refine (events_any bb ms mh B S2A8 w6 HBK6.out fineA8.by' (fun e he => by rw [holdsA8] at he; rw [List.mem_singleton.1 he]; decide)).mono ?_
  rintro e w7 ⟨⟨o7, n7, q7⟩, ps, rfl, hps, hacc, hb7⟩
  have hz7 := hb7.size
  obtain ⟨hq, rfl⟩ : ∃ hq, ps = [(hq, yA8)] := by
    rw [holdsA8] at hps
    match ps, hps with
    | [], h => cases h
    | [p], h => exact ⟨p.1, by rw [← (List.cons.inj h).1]⟩
    | p :: q :: t, h => exact absurd (congrArg List.length h) (by simp)
  have hrow := hacc.row
  simp only [Hdr.val] at hrow ⊢
  obtain rfl : n7 = 1 := by
    obtain ⟨_, _, hv, _⟩ := hrow.at.slice_of
    simp only [Value.slice.injEq] at hv
    exact hv.2.1
  obtain ⟨b7, f7, rfl⟩ := hrow.at.plain pcells_len (by decide) (by simp)
  have p0 : w7.cell? ⟨b7, f7 + (0 * 14 + 0), none⟩ = some (.int .i64 1) := hrow.at.cell pcells_len (i := 0) (c := 0) (by simp) (by decide)
  have p1 : w7.cell? ⟨b7, f7 + (0 * 14 + 1), none⟩ = some (.int .i64 1) := hrow.at.cell pcells_len (i := 0) (c := 1) (by simp) (by decide)
  have hbl : w6.heap.size ≤ b7 ∧ b7 < w7.heap.size := hrow.lt b7 rfl
  rw [show f7 + (0 * 14 + 0) = f7 by omega] at p0
  rw [show f7 + (0 * 14 + 1) = f7 + 1 by omega] at p1
  have X7 := Lib.hid ((hb7.block (w1.heap.size + 1) (by omega)).trans X6.out)
  have Y7 := Lib.hid ((hb7.block (w1.heap.size + 1 + 1 + 1) (by omega)).trans Y6.out)
  have xx7 := fun o => cell_of_row w7 (w1.heap.size + 1) o _ _ _ X7.out
  have HB7 := Lib.hid (HB6.out.trans (hb7.mono HB6.out.size))
  have hbk7 := HBK6.out.below hb7 (Nat.le_refl _)
  have hx := bookAdd_any bb ms mh B S2A8 ⟨none, 0, 0⟩ xA8 w7 hbk7 (SlAt.nil _ _) (by decide) (.inl rfl) (by show _ ≤ (2 : Int) ∧ (2 : Int) ≤ _; omega)
  simp only [addA8_3] at hx
  have HX := Lib.hid hx
  clear hx hbk7 hb7 hrow hacc hps X6 Y6 HB6 HBK6
  go_wp2_with fail
  refine HX.out.mono ?_
  rintro e w8 ⟨rfl, hbk8, ht8⟩
  have hz8 := ht8.size
  have k7 := ht8.block b7 hbl.2 (by omega) (by omega) (by omega)
  have X8 := Lib.hid ((ht8.block (w1.heap.size + 1) (by omega) (by omega) (by omega) (by omega)).trans X7.out)
  have Y8 := Lib.hid ((ht8.block (w1.heap.size + 1 + 1 + 1) (by omega) (by omega) (by omega) (by omega)).trans Y7.out)
  have HB8 := Lib.hid (HB7.out.trans (ht8.below (C := w.heap.size) (by omega) (by omega) (by omega) HB7.out.size))
  have HBK8 := Lib.hid hbk8
  have s0 : w8.cell? ⟨b7, f7, none⟩ = some (.int .i64 1) := by unfold World.cell? at p0 ⊢; rw [k7]; exact p0
  have s1 : w8.cell? ⟨b7, f7 + 1, none⟩ = some (.int .i64 1) := by unfold World.cell? at p1 ⊢; rw [k7]; exact p1
  have P0 := Lib.hid s0
  have P1 := Lib.hid s1
  clear xx7 p0 p1 k7 hbk8 ht8 s0 s1 HX X7 Y7 HB7
  go_wp2_with fail
  refine (stands_any bb ms mh B S2A8 0 w8 HBK8.out fineA8).mono ?_
  rintro e w9 ⟨⟨o9, n9, q9⟩, rfl, hown9, hb9⟩
  have hz9 := hb9.size
  obtain rfl : n9 = 2 := by
    obtain ⟨_, _, hv, _⟩ := hown9.at.slice_of
    simp only [Hdr.val, Value.slice.injEq] at hv
    exact hv.2.1.trans standsA8.1
  simp only [Hdr.val, standsA8.2]
  have t0 : w9.drew.cell? ⟨b7, f7, none⟩ = some (.int .i64 1) := by
    have h1 : w9.drew.heap[b7]? = _ := hb9.block b7 (by omega)
    have h2 := P0.out
    unfold World.cell? at h2 ⊢; rw [h1]; exact h2
  have t1 : w9.drew.cell? ⟨b7, f7 + 1, none⟩ = some (.int .i64 1) := by
    have h1 : w9.drew.heap[b7]? = _ := hb9.block b7 (by omega)
    have h2 := P1.out
    unfold World.cell? at h2 ⊢; rw [h1]; exact h2
  have X9 := Lib.hid ((hb9.block (w1.heap.size + 1) (by omega)).trans X8.out)
  have y9 := (hb9.block (w1.heap.size + 1 + 1 + 1) (by omega)).trans Y8.out
  have aY := fun o => cell_of_row w9.drew (w1.heap.size + 1 + 1 + 1) o _ _ _ y9
  have hbk9 : BookAt w9.drew bb ms mh B S2A8 := HBK8.out.below (below_drew hb9) (Nat.le_refl _)
  have hsn := seen_any bb ms mh B S2A8 fineA8.ok w9.drew hbk9
  have HSN := Lib.hid hsn
  have HBK9 := Lib.hid hbk9
  have HB9 := Lib.hid (below_drew (HB8.out.trans (hb9.mono HB8.out.size)))
  clear hsn hbk9 hb9 hown9 P0 P1 X8 Y8 HB8 HBK8 y9
  go_wp2_with fail
  refine wp_region_any (by kernel_rfl) ?_
  change wpAny _ _ _ _ _ _ _ (World.drew _)
  refine wpAny_ready (rs := [0]) (by kernel_rfl) (by simp) ?_
  refine BigFrame.allReady_want (i := 0) rfl (by kernel_rfl) (fun K hK => ?_) AllReady.nil
  show Oper.wp _ (Oper.mk _ _ _ _ _ _) _ _ _ _
  go_step
  refine hK _ _ ?_
  clear hK K
  refine wpAny_ready (rs := [1]) (by kernel_rfl) (by simp) ?_
  refine BigFrame.allReady_want (i := 1) rfl (by kernel_rfl) (fun K hK => ?_) AllReady.nil
  show Oper.wp _ (Oper.mk _ _ _ _ _ _) _ _ _ _
  go_step
  refine hK _ _ ?_
  clear hK K
  refine wpAny_ready (rs := [2]) (by kernel_rfl) (by simp) ?_
  refine BigFrame.allReady_want (i := 2) rfl (by kernel_rfl) (fun K hK => ?_) AllReady.nil
  show Oper.wp _ (Oper.mk _ _ _ _ _ _) _ _ _ _
  go_step
  refine hK _ _ ?_
  clear hK K
  refine wpAny_ready (rs := [3]) (by kernel_rfl) (by simp) ?_
  refine BigFrame.allReady_want (i := 3) rfl (by kernel_rfl) (fun K hK => ?_) AllReady.nil
  show Oper.wp _ (Oper.mk _ _ _ _ _ _) _ _ _ _
  go_step
  refine hK _ _ ?_
  clear hK K
  refine wpAny_ready (rs := [4]) (by kernel_rfl) (by simp) ?_
  refine BigFrame.allReady_want (i := 4) rfl (by kernel_rfl) (fun K hK => ?_) AllReady.nil
  show Oper.wp _ (Oper.mk _ _ _ _ _ _) _ _ _ _
  go_step
  refine hK _ _ ?_
  clear hK K
  refine wpAny_ready (rs := [5]) (by kernel_rfl) (by simp) ?_
  refine BigFrame.allReady_want (i := 5) rfl (by kernel_rfl) (fun K hK => ?_) AllReady.nil
  show Oper.wp _ (Oper.mk _ _ _ _ _ _) _ _ _ _
  go_step
  refine hK _ _ ?_
  clear hK K
  refine wpAny_ready (rs := [6]) (by kernel_rfl) (by simp) ?_
  refine BigFrame.allReady_want (i := 6) rfl (by kernel_rfl) (fun K hK => ?_) AllReady.nil
  show Oper.wp _ (Oper.mk _ _ _ _ _ _) _ _ _ _
  go_step
  refine hK _ _ ?_
  clear hK K
  refine wpAny_ready (rs := [7]) (by kernel_rfl) (by simp) ?_
  refine BigFrame.allReady_want (i := 7) rfl (by kernel_rfl) (fun K hK => ?_) AllReady.nil
  show Oper.wp _ (Oper.mk _ _ _ _ _ _) _ _ _ _
  go_step
  refine hK _ _ ?_
  clear hK K
  refine wpAny_ready (rs := [8]) (by kernel_rfl) (by simp) ?_
  refine BigFrame.allReady_want (i := 8) rfl (by kernel_rfl) (fun K hK => ?_) AllReady.nil
  show Oper.wp _ (Oper.mk _ _ _ _ _ _) _ _ _ _
  go_step
  refine hK _ _ ?_
  clear hK K
  refine wpAny_ready (rs := [9]) (by kernel_rfl) (by simp) ?_
  refine BigFrame.allReady_want (i := 9) rfl (by kernel_rfl) (fun K hK => ?_) AllReady.nil
  show Oper.wp _ (Oper.mk _ _ _ _ _ _) _ _ _ _
  go_step
  refine hK _ _ ?_
  clear hK K
  refine wpAny_ready (rs := [10]) (by kernel_rfl) (by simp) ?_
  refine BigFrame.allReady_want (i := 10) rfl (by kernel_rfl) (fun K hK => ?_) AllReady.nil
  show Oper.wp _ (Oper.mk _ _ _ _ _ _) _ _ _ _
  go_step
  refine hK _ _ ?_
  clear hK K
  refine wpAny_ready (rs := [11]) (by kernel_rfl) (by simp) ?_
  refine BigFrame.allReady_want (i := 11) rfl (by kernel_rfl) (fun K hK => ?_) AllReady.nil
  show Oper.wp _ (Oper.mk _ _ _ _ _ _) _ _ _ _
  go_step
  refine hK _ _ ?_
  clear hK K
  refine wpAny_ready (rs := [12]) (by kernel_rfl) (by simp) ?_
  refine BigFrame.allReady_want (i := 12) rfl (by kernel_rfl) (fun K hK => ?_) AllReady.nil
  show Oper.wp _ (Oper.mk _ _ _ _ _ _) _ _ _ _
  go_step
  refine hK _ _ ?_
  clear hK K
  refine wpAny_ready (rs := [13]) (by kernel_rfl) (by simp) ?_
  refine BigFrame.allReady_want (i := 13) rfl (by kernel_rfl) (fun K hK => ?_) AllReady.nil
  show Oper.wp _ (Oper.mk _ _ _ _ _ _) _ _ _ _
  go_step
  refine hK _ _ ?_
  clear hK K
  refine wpAny_ready (rs := [14]) (by kernel_rfl) (by simp) ?_
  refine BigFrame.allReady_want (i := 14) rfl (by kernel_rfl) (fun K hK => ?_) AllReady.nil
  show Oper.wp _ (Oper.mk _ _ _ _ _ _) _ _ _ _
  go_step
  refine hK _ _ ?_
  clear hK K
  refine wpAny_ready (rs := [15]) (by kernel_rfl) (by simp) ?_
  refine BigFrame.allReady_want (i := 15) rfl (by kernel_rfl) (fun K hK => ?_) AllReady.nil
  show Oper.wp _ (Oper.mk _ _ _ _ _ _) _ _ _ _
  go_step
  refine hK _ _ ?_
  clear hK K
  refine ?ps0_0
  refine wpAny_ready (rs := [16, 20]) (by kernel_rfl) (by simp) ?_
  refine (BigFrame.allReady_want (i := 16) rfl (by kernel_rfl) (fun K hK => ?_) (BigFrame.allReady_want (i := 20) rfl (by kernel_rfl) (fun K hK => ?_) AllReady.nil))
  show Oper.wp _ (Oper.mk _ _ _ _ _ _) _ _ _ _
  go_step
  refine hK _ _ ?_
  clear hK K
  refine ?ps1_0
  rotate_left
  show Oper.wp _ (Oper.mk _ _ _ _ _ _) _ _ _ _
  go_step
  refine hK _ _ ?_
  clear hK K
  refine ?ps0_1
  rotate_left
  refine wpAny_ready (rs := [17, 20]) (by kernel_rfl) (by simp) ?_
  refine (BigFrame.allReady_want (i := 17) rfl (by kernel_rfl) (fun K hK => ?_) (BigFrame.allReady_want (i := 20) rfl (by kernel_rfl) (fun K hK => ?_) AllReady.nil))
  show Oper.wp _ (Oper.mk _ _ _ _ _ _) _ _ _ _
  go_step
  refine hK _ _ ?_
  clear hK K
  refine ?ps2_0
  rotate_left
  show Oper.wp _ (Oper.mk _ _ _ _ _ _) _ _ _ _
  go_step
  refine hK _ _ ?_
  clear hK K
  refine ?ps1_1
  rotate_left
  refine wpAny_ready (rs := [16, 21]) (by kernel_rfl) (by simp) ?_
  refine (BigFrame.allReady_want (i := 16) rfl (by kernel_rfl) (fun K hK => ?_) (BigFrame.allReady_want (i := 21) rfl (by kernel_rfl) (fun K hK => ?_) AllReady.nil))
  show Oper.wp _ (Oper.mk _ _ _ _ _ _) _ _ _ _
  go_step
  refine hK _ _ ?_
  clear hK K
  exact ?ps1_1
  show Oper.wp _ (Oper.mk _ _ _ _ _ _) _ _ _ _
  go_step
  refine hK _ _ ?_
  clear hK K
  refine ?ps0_2
  rotate_left
  refine wpAny_ready (rs := [18, 20]) (by kernel_rfl) (by simp) ?_
  refine (BigFrame.allReady_want (i := 18) rfl (by kernel_rfl) (fun K hK => ?_) (BigFrame.allReady_want (i := 20) rfl (by kernel_rfl) (fun K hK => ?_) AllReady.nil))
  show Oper.wp _ (Oper.mk _ _ _ _ _ _) _ _ _ _
  go_step
  refine hK _ _ ?_
  clear hK K
  refine ?ps3_0
  rotate_left
  show Oper.wp _ (Oper.mk _ _ _ _ _ _) _ _ _ _
  go_step
  refine hK _ _ ?_
  clear hK K
  refine ?ps2_1
  rotate_left
  refine wpAny_ready (rs := [17, 21]) (by kernel_rfl) (by simp) ?_
  refine (BigFrame.allReady_want (i := 17) rfl (by kernel_rfl) (fun K hK => ?_) (BigFrame.allReady_want (i := 21) rfl (by kernel_rfl) (fun K hK => ?_) AllReady.nil))
  show Oper.wp _ (Oper.mk _ _ _ _ _ _) _ _ _ _
  go_step
  refine hK _ _ ?_
  clear hK K
  exact ?ps2_1
  show Oper.wp _ (Oper.mk _ _ _ _ _ _) _ _ _ _
  go_step
  refine hK _ _ ?_
  clear hK K
  refine ?ps1_2
  rotate_left
  refine wpAny_ready (rs := [16]) (by kernel_rfl) (by simp) ?_
  refine (BigFrame.allReady_want (i := 16) rfl (by kernel_rfl) (fun K hK => ?_) AllReady.nil)
  show Oper.wp _ (Oper.mk _ _ _ _ _ _) _ _ _ _
  go_step
  refine hK _ _ ?_
  clear hK K
  exact ?ps1_2
  refine wpAny_ready (rs := [19, 20]) (by kernel_rfl) (by simp) ?_
  refine (BigFrame.allReady_want (i := 19) rfl (by kernel_rfl) (fun K hK => ?_) (BigFrame.allReady_want (i := 20) rfl (by kernel_rfl) (fun K hK => ?_) AllReady.nil))
  show Oper.wp _ (Oper.mk _ _ _ _ _ _) _ _ _ _
  go_step
  refine hK _ _ ?_
  clear hK K
  refine ?ps4_0
  rotate_left
  show Oper.wp _ (Oper.mk _ _ _ _ _ _) _ _ _ _
  go_step
  refine hK _ _ ?_
  clear hK K
  refine ?ps3_1
  rotate_left
  refine wpAny_ready (rs := [18, 21]) (by kernel_rfl) (by simp) ?_
  refine (BigFrame.allReady_want (i := 18) rfl (by kernel_rfl) (fun K hK => ?_) (BigFrame.allReady_want (i := 21) rfl (by kernel_rfl) (fun K hK => ?_) AllReady.nil))
  show Oper.wp _ (Oper.mk _ _ _ _ _ _) _ _ _ _
  go_step
  refine hK _ _ ?_
  clear hK K
  exact ?ps3_1
  show Oper.wp _ (Oper.mk _ _ _ _ _ _) _ _ _ _
  go_step
  refine hK _ _ ?_
  clear hK K
  refine ?ps2_2
  rotate_left
  refine wpAny_ready (rs := [17]) (by kernel_rfl) (by simp) ?_
  refine (BigFrame.allReady_want (i := 17) rfl (by kernel_rfl) (fun K hK => ?_) AllReady.nil)
  show Oper.wp _ (Oper.mk _ _ _ _ _ _) _ _ _ _
  go_step
  refine hK _ _ ?_
  clear hK K
  exact ?ps2_2
  refine wpAny_ready (rs := [20]) (by kernel_rfl) (by simp) ?_
  refine (BigFrame.allReady_want (i := 20) rfl (by kernel_rfl) (fun K hK => ?_) AllReady.nil)
  show Oper.wp _ (Oper.mk _ _ _ _ _ _) _ _ _ _
  go_step
  refine hK _ _ ?_
  clear hK K
  refine ?ps4_1
  rotate_left
  refine wpAny_ready (rs := [19, 21]) (by kernel_rfl) (by simp) ?_
  refine (BigFrame.allReady_want (i := 19) rfl (by kernel_rfl) (fun K hK => ?_) (BigFrame.allReady_want (i := 21) rfl (by kernel_rfl) (fun K hK => ?_) AllReady.nil))
  show Oper.wp _ (Oper.mk _ _ _ _ _ _) _ _ _ _
  go_step
  refine hK _ _ ?_
  clear hK K
  exact ?ps4_1
  show Oper.wp _ (Oper.mk _ _ _ _ _ _) _ _ _ _
  go_step
  refine hK _ _ ?_
  clear hK K
  refine ?ps3_2
  rotate_left
  refine wpAny_ready (rs := [18]) (by kernel_rfl) (by simp) ?_
  refine (BigFrame.allReady_want (i := 18) rfl (by kernel_rfl) (fun K hK => ?_) AllReady.nil)
  show Oper.wp _ (Oper.mk _ _ _ _ _ _) _ _ _ _
  go_step
  refine hK _ _ ?_
  clear hK K
  exact ?ps3_2
  refine wpAny_ready (rs := [21]) (by kernel_rfl) (by simp) ?_
  refine (BigFrame.allReady_want (i := 21) rfl (by kernel_rfl) (fun K hK => ?_) AllReady.nil)
  show Oper.wp _ (Oper.mk _ _ _ _ _ _) _ _ _ _
  go_step
  refine hK _ _ ?_
  clear hK K
  refine ?ps4_2
  rotate_left
  refine wpAny_ready (rs := [19]) (by kernel_rfl) (by simp) ?_
  refine (BigFrame.allReady_want (i := 19) rfl (by kernel_rfl) (fun K hK => ?_) AllReady.nil)
  show Oper.wp _ (Oper.mk _ _ _ _ _ _) _ _ _ _
  go_step
  refine hK _ _ ?_
  clear hK K
  exact ?ps4_2
  refine wpAny_ready (rs := [22]) (by kernel_rfl) (by simp) ?_
  refine BigFrame.allReady_want (i := 22) rfl (by kernel_rfl) (fun K hK => ?_) AllReady.nil
  show Oper.wp _ (Oper.mk _ _ _ _ _ _) _ _ _ _
  go_step
  refine hK _ _ ?_
  clear hK K
  refine wpAny_ready (rs := [23]) (by kernel_rfl) (by simp) ?_
  refine BigFrame.allReady_want (i := 23) rfl (by kernel_rfl) (fun K hK => ?_) AllReady.nil
  show Oper.wp _ (Oper.mk _ _ _ _ _ _) _ _ _ _
  go_step
  refine hK _ _ ?_
  clear hK K
  refine wpAny_ready (rs := [24]) (by kernel_rfl) (by simp) ?_
  refine BigFrame.allReady_want (i := 24) rfl (by kernel_rfl) (fun K hK => ?_) AllReady.nil
  show Oper.wp _ (Oper.mk _ _ _ _ _ _) _ _ _ _
  go_step
  refine hK _ _ ?_
  clear hK K
  refine wpAny_ready (rs := [25]) (by kernel_rfl) (by simp) ?_
  refine BigFrame.allReady_want (i := 25) rfl (by kernel_rfl) (fun K hK => ?_) AllReady.nil
  show Oper.wp _ (Oper.mk _ _ _ _ _ _) _ _ _ _
  go_step
  refine hK _ _ ?_
  clear hK K
  refine wpAny_ready (rs := [26]) (by kernel_rfl) (by simp) ?_
  refine BigFrame.allReady_want (i := 26) rfl (by kernel_rfl) (fun K hK => ?_) AllReady.nil
  show Oper.wp _ (Oper.mk _ _ _ _ _ _) _ _ _ _
  go_step
  refine HSN.out.mono ?_
  rintro e w10 ⟨⟨oa, na, qa⟩, r, rfl, hcl, hown, hb10⟩
  have hz10 : w9.heap.size ≤ w10.heap.size := hb10.size
  obtain rfl : na = r.more.length := by
    obtain ⟨_, _, hv, _⟩ := hown.at.slice_of
    simp only [Hdr.val, Value.slice.injEq] at hv
    exact hv.2.1
  have hml : r.more.length ≤ 1000000 := by
    have h := (hcl.right fineA8.ok).2.1
    omega
  have hct := count_any oa qa r w10 hown.at hml
  rw [hcl.grid fineA8.ok, sawA8] at hct
  have HCT := Lib.hid hct
  have hq2 : (qcells (⟨oa, r.more.length, qa⟩, r)).toArray = #[.int .i64 (r.u 0), .int .i64 (r.u 1), .int .i64 (r.u 2), .int .i64 (r.u 3), .int .i64 (r.u 4), .int .i64 (r.u 5), .int .i64 (r.u 6), .int .i64 (r.u 7), .slice oa r.more.length qa] := rfl
  rw [hq2]
  have X10 := Lib.hid ((hb10.block (w1.heap.size + 1) (by show _ < w9.heap.size; omega)).trans X9.out)
  have HBK10 := Lib.hid (HBK9.out.below hb10 (Nat.le_refl _))
  have HB10 := Lib.hid (HB9.out.trans (hb10.mono HB9.out.size))
  clear hcl hown hb10 hml hct hq2 HSN
  refine hK _ _ ?_
  clear hK K
  refine wpAny_ready (rs := [27]) (by kernel_rfl) (by simp) ?_
  refine BigFrame.allReady_want (i := 27) rfl (by kernel_rfl) (fun K hK => ?_) AllReady.nil
  show Oper.wp _ (Oper.mk _ _ _ _ _ _) _ _ _ _
  go_step
  refine HCT.out.mono ?_
  rintro e w11 ⟨rfl, hb11⟩
  have hz11 : w10.heap.size ≤ w11.heap.size := hb11.size
  have hck := clock_any bb ms mh B S2A8 w11 (HBK10.out.below hb11 (Nat.le_refl _))
  rw [timeA8] at hck
  have HCK := Lib.hid hck
  have X11 := Lib.hid ((hb11.block (w1.heap.size + 1) (by omega)).trans X10.out)
  have HB11 := Lib.hid (HB10.out.trans (hb11.mono HB10.out.size))
  clear hb11 hck HCT
  refine hK _ _ ?_
  clear hK K
  refine wpAny_ready (rs := [28]) (by kernel_rfl) (by simp) ?_
  refine BigFrame.allReady_want (i := 28) rfl (by kernel_rfl) (fun K hK => ?_) AllReady.nil
  show Oper.wp _ (Oper.mk _ _ _ _ _ _) _ _ _ _
  go_step
  refine hK _ _ ?_
  clear hK K
  refine wpAny_ready (rs := [29]) (by kernel_rfl) (by simp) ?_
  refine BigFrame.allReady_want (i := 29) rfl (by kernel_rfl) (fun K hK => ?_) AllReady.nil
  show Oper.wp _ (Oper.mk _ _ _ _ _ _) _ _ _ _
  go_step
  refine hK _ _ ?_
  clear hK K
  refine wpAny_ready (rs := [30]) (by kernel_rfl) (by simp) ?_
  refine BigFrame.allReady_want (i := 30) rfl (by kernel_rfl) (fun K hK => ?_) AllReady.nil
  show Oper.wp _ (Oper.mk _ _ _ _ _ _) _ _ _ _
  go_step
  refine hK _ _ ?_
  clear hK K
  refine wpAny_ready (rs := [31]) (by kernel_rfl) (by simp) ?_
  refine BigFrame.allReady_want (i := 31) rfl (by kernel_rfl) (fun K hK => ?_) AllReady.nil
  show Oper.wp _ (Oper.mk _ _ _ _ _ _) _ _ _ _
  go_step
  refine hK _ _ ?_
  clear hK K
  refine wpAny_ready (rs := [32]) (by kernel_rfl) (by simp) ?_
  refine BigFrame.allReady_want (i := 32) rfl (by kernel_rfl) (fun K hK => ?_) AllReady.nil
  show Oper.wp _ (Oper.mk _ _ _ _ _ _) _ _ _ _
  go_step
  refine hK _ _ ?_
  clear hK K
  refine wpAny_ready (rs := [33]) (by kernel_rfl) (by simp) ?_
  refine BigFrame.allReady_want (i := 33) rfl (by kernel_rfl) (fun K hK => ?_) AllReady.nil
  show Oper.wp _ (Oper.mk _ _ _ _ _ _) _ _ _ _
  go_step
  refine hK _ _ ?_
  clear hK K
  refine wpAny_ready (rs := [34]) (by kernel_rfl) (by simp) ?_
  refine BigFrame.allReady_want (i := 34) rfl (by kernel_rfl) (fun K hK => ?_) AllReady.nil
  show Oper.wp _ (Oper.mk _ _ _ _ _ _) _ _ _ _
  go_step
  refine hK _ _ ?_
  clear hK K
  refine wpAny_ready (rs := [35]) (by kernel_rfl) (by simp) ?_
  refine BigFrame.allReady_want (i := 35) rfl (by kernel_rfl) (fun K hK => ?_) AllReady.nil
  show Oper.wp _ (Oper.mk _ _ _ _ _ _) _ _ _ _
  go_step
  refine hK _ _ ?_
  clear hK K
  refine wpAny_ready (rs := [36]) (by kernel_rfl) (by simp) ?_
  refine BigFrame.allReady_want (i := 36) rfl (by kernel_rfl) (fun K hK => ?_) AllReady.nil
  show Oper.wp _ (Oper.mk _ _ _ _ _ _) _ _ _ _
  go_step
  refine hK _ _ ?_
  clear hK K
  refine wpAny_ready (rs := [37]) (by kernel_rfl) (by simp) ?_
  refine BigFrame.allReady_want (i := 37) rfl (by kernel_rfl) (fun K hK => ?_) AllReady.nil
  show Oper.wp _ (Oper.mk _ _ _ _ _ _) _ _ _ _
  go_step
  refine hK _ _ ?_
  clear hK K
  refine wpAny_ready (rs := [38]) (by kernel_rfl) (by simp) ?_
  refine BigFrame.allReady_want (i := 38) rfl (by kernel_rfl) (fun K hK => ?_) AllReady.nil
  show Oper.wp _ (Oper.mk _ _ _ _ _ _) _ _ _ _
  go_step
  refine hK _ _ ?_
  clear hK K
  refine wpAny_ready (rs := [39]) (by kernel_rfl) (by simp) ?_
  refine BigFrame.allReady_want (i := 39) rfl (by kernel_rfl) (fun K hK => ?_) AllReady.nil
  show Oper.wp _ (Oper.mk _ _ _ _ _ _) _ _ _ _
  go_step
  refine hK _ _ ?_
  clear hK K
  refine wpAny_ready (rs := [40]) (by kernel_rfl) (by simp) ?_
  refine BigFrame.allReady_want (i := 40) rfl (by kernel_rfl) (fun K hK => ?_) AllReady.nil
  show Oper.wp _ (Oper.mk _ _ _ _ _ _) _ _ _ _
  go_step
  refine hK _ _ ?_
  clear hK K
  refine wpAny_ready (rs := [41]) (by kernel_rfl) (by simp) ?_
  refine BigFrame.allReady_want (i := 41) rfl (by kernel_rfl) (fun K hK => ?_) AllReady.nil
  show Oper.wp _ (Oper.mk _ _ _ _ _ _) _ _ _ _
  go_step
  refine HCK.out.mono ?_
  rintro e w12 ⟨rfl, hb12⟩
  have hz12 : w11.heap.size ≤ w12.heap.size := hb12.size
  have x12 := (hb12.block (w1.heap.size + 1) (by omega)).trans X11.out
  have aX := fun o => cell_of_row w12 (w1.heap.size + 1) o _ _ _ x12
  have HNL := Lib.hid (addNil_any ⟨none, 0, 0⟩ xA8 w12)
  have HB12 := Lib.hid (HB11.out.trans (hb12.mono HB11.out.size))
  clear hb12 x12 HCK
  refine hK _ _ ?_
  clear hK K
  refine wpAny_ready (rs := [42]) (by kernel_rfl) (by simp) ?_
  refine BigFrame.allReady_want (i := 42) rfl (by kernel_rfl) (fun K hK => ?_) AllReady.nil
  show Oper.wp _ (Oper.mk _ _ _ _ _ _) _ _ _ _
  go_step
  refine hK _ _ ?_
  clear hK K
  refine wpAny_ready (rs := [43]) (by kernel_rfl) (by simp) ?_
  refine BigFrame.allReady_want (i := 43) rfl (by kernel_rfl) (fun K hK => ?_) AllReady.nil
  show Oper.wp _ (Oper.mk _ _ _ _ _ _) _ _ _ _
  go_step
  refine hK _ _ ?_
  clear hK K
  refine wpAny_ready (rs := [44]) (by kernel_rfl) (by simp) ?_
  refine BigFrame.allReady_want (i := 44) rfl (by kernel_rfl) (fun K hK => ?_) AllReady.nil
  show Oper.wp _ (Oper.mk _ _ _ _ _ _) _ _ _ _
  go_step
  refine hK _ _ ?_
  clear hK K
  refine ?qs0_0
  refine wpAny_ready (rs := [45, 46]) (by kernel_rfl) (by simp) ?_
  refine (BigFrame.allReady_want (i := 45) rfl (by kernel_rfl) (fun K hK => ?_) (BigFrame.allReady_want (i := 46) rfl (by kernel_rfl) (fun K hK => ?_) AllReady.nil))
  show Oper.wp _ (Oper.mk _ _ _ _ _ _) _ _ _ _
  go_step
  refine hK _ _ ?_
  clear hK K
  refine ?qs1_0
  rotate_left
  show Oper.wp _ (Oper.mk _ _ _ _ _ _) _ _ _ _
  go_step
  refine hK _ _ ?_
  clear hK K
  refine ?qs0_1
  rotate_left
  refine wpAny_ready (rs := [46]) (by kernel_rfl) (by simp) ?_
  refine (BigFrame.allReady_want (i := 46) rfl (by kernel_rfl) (fun K hK => ?_) AllReady.nil)
  show Oper.wp _ (Oper.mk _ _ _ _ _ _) _ _ _ _
  go_step
  refine hK _ _ ?_
  clear hK K
  refine ?qs1_1
  rotate_left
  refine wpAny_ready (rs := [45]) (by kernel_rfl) (by simp) ?_
  refine (BigFrame.allReady_want (i := 45) rfl (by kernel_rfl) (fun K hK => ?_) AllReady.nil)
  show Oper.wp _ (Oper.mk _ _ _ _ _ _) _ _ _ _
  go_step
  refine hK _ _ ?_
  clear hK K
  exact ?qs1_1
  refine wpAny_ready (rs := [47]) (by kernel_rfl) (by simp) ?_
  refine BigFrame.allReady_want (i := 47) rfl (by kernel_rfl) (fun K hK => ?_) AllReady.nil
  show Oper.wp _ (Oper.mk _ _ _ _ _ _) _ _ _ _
  go_step
  refine HNL.out.mono ?_
  rintro e w13 ⟨rfl, hb13⟩
  have HB13 := Lib.hid (HB12.out.trans (hb13.mono HB12.out.size))
  clear hb13 HNL
  refine hK _ _ ?_
  clear hK K
  refine wpAny_ready (rs := [48]) (by kernel_rfl) (by simp) ?_
  refine BigFrame.allReady_want (i := 48) rfl (by kernel_rfl) (fun K hK => ?_) AllReady.nil
  show Oper.wp _ (Oper.mk _ _ _ _ _ _) _ _ _ _
  go_step
  refine hK _ _ ?_
  clear hK K
  refine wpAny_ready (rs := [49]) (by kernel_rfl) (by simp) ?_
  refine BigFrame.allReady_want (i := 49) rfl (by kernel_rfl) (fun K hK => ?_) AllReady.nil
  show Oper.wp _ (Oper.mk _ _ _ _ _ _) _ _ _ _
  go_step
  refine hK _ _ ?_
  clear hK K
  refine wpAny_ready (rs := [50]) (by kernel_rfl) (by simp) ?_
  refine BigFrame.allReady_want (i := 50) rfl (by kernel_rfl) (fun K hK => ?_) AllReady.nil
  show Oper.wp _ (Oper.mk _ _ _ _ _ _) _ _ _ _
  go_step
  refine hK _ _ ?_
  clear hK K
  refine wpAny_done (by kernel_rfl) ?_ _
  go_wp2_with fail
  go_ret
  exact ⟨rfl, HB13.out⟩
end Go.Proofs.Ytidiapgdgoeplaa
