/-
  The detector as it lies in memory; hear walked.
-/
import Derived.Test.YtejihgfigclppaaGreatMTouch
import Derived.Test.YtejihgfigclppaaGreatMembA
import Derived.Deep.DeepCutAuto
namespace Go.Proofs.YtejihgfigclppaaGreat
open Go.Shelf Go.RowKit Go.Lib Go.Sort
set_option linter.unusedVariables false
set_option linter.unusedSimpArgs false
/-- where a detector's parts lie -/
structure DM where
  g : Nat
  gt : Nat
  go : Nat
  gm : Nat
  pb : Option Nat
  ev : Value
  wb : Option Nat
def prV (o : Option Nat) : Value := .pointer (o.map fun b => ⟨b, 0, none⟩)
def Er.cells (e : Er) : List Value := [.int .i64 e.num, .int .i64 e.node, .int .i64 e.frm, .int .i64 e.seq]
theorem Er.cells_len (e : Er) : e.cells.length = 4 := rfl
def dcells (M : DM) (d : Det) : Array Value :=
  #[.int .i64 d.self, .int .i64 d.inc, .int .i64 d.c.tout, .int .i64 d.c.ind, .int .i64 d.c.gr, .pointer (some ⟨M.gt, 0, none⟩), .pointer (some ⟨M.go, 0, none⟩), .int .i64 d.clock, .int .i64 d.num, prV M.pb, .int .i64 d.began, .map (some M.gm), M.ev, .bool d.left]
def DM.own (M : DM) : List Nat := M.g :: M.gt :: M.go :: M.gm :: (M.pb.toList ++ (M.ev.ownBlock.toList ++ M.wb.toList))
def PrAt (W : World) : Option Nat → Option (Int × Int) → Prop
  | none, none => True
  | some b, some p => W.heap[b]? = some (.cells #[.int .i64 p.1, .int .i64 p.2] 130)
  | _, _ => False
/-- the order of probes: its block, and the row of those that wait, if there are any -/
def WaitsAt (W : World) (go : Nat) (wb : Option Nat) (s : Int) (ws : List Int) : Prop := ∃ wv, Ord2 go W s wv 139 ∧ SlAt icells W wv ws ∧ (ws ≠ [] → wv.ownBlock = wb) ∧ (∀ b, wb = some b → (W.heap[b]?).isSome = true) ∧ ∀ b, wv.ownBlock = some b → go < b
theorem WaitsAt.lt {W : World} {go : Nat} {wb : Option Nat} {s : Int} {ws : List Int} (h : WaitsAt W go wb s ws) : go < W.heap.size := by obtain ⟨v, h, _⟩ := h; exact h.lt
theorem WaitsAt.lt2 {W : World} {go : Nat} {wb : Option Nat} {s : Int} {ws : List Int} (h : WaitsAt W go wb s ws) : ∀ b, wb = some b → b < W.heap.size := by
  obtain ⟨v, _, _, _, h, _⟩ := h
  intro b hb
  have := h b hb
  rcases Nat.lt_or_ge b W.heap.size with h' | h'
  · exact h'
  · rw [Array.getElem?_eq_none h'] at this; cases this
theorem WaitsAt.keep {W W' : World} {go : Nat} {wb : Option Nat} {s : Int} {ws : List Int} (h : WaitsAt W go wb s ws) (h1 : W'.heap[go]? = W.heap[go]?) (h2 : ∀ b, wb = some b → W'.heap[b]? = W.heap[b]?) : WaitsAt W' go wb s ws := by
  obtain ⟨v, a, b, c, d, f⟩ := h
  refine ⟨v, a.keep h1, b.keep ?_, c, fun k hk => by rw [h2 k hk]; exact d k hk, f⟩
  by_cases e : ws = []
  · exact .inl e
  · exact .inr fun k hk => h2 k (by rw [← c e]; exact hk)
/-- as the order's own words have it -/
theorem WaitsAt.obj {W : World} {go : Nat} {wb : Option Nat} {s : Int} {ws : List Int} (h : WaitsAt W go wb s ws) : Obj 139 go (go + 1) W s ws := by
  obtain ⟨v, a, b, c, d, f⟩ := h
  exact ⟨v, a, b, Nat.lt_succ_self _, fun g hg => f g hg⟩
theorem waits_of {W : World} {go B : Nat} {s : Int} {ws : List Int} (h : Obj 139 go B W s ws) : ∃ wb, WaitsAt W go wb s ws ∧ ∀ b, wb = some b → B ≤ b := by
  obtain ⟨v, a, b, c, d⟩ := h
  by_cases e : ws = []
  · exact ⟨none, ⟨v, a, b, fun h => absurd e h, (fun b h => nomatch h), fun g hg => Nat.lt_of_lt_of_le c (d g hg)⟩, fun b h => by cases h⟩
  · exact ⟨v.ownBlock, ⟨v, a, b, fun _ => rfl, fun k hk => by
      have := b.lt icells_len (by decide) e k hk
      rw [Array.getElem?_eq_getElem this]; rfl, fun g hg => Nat.lt_of_lt_of_le c (d g hg)⟩, fun k hk => d k hk⟩
/-- the detector d lies at M -/
structure DetAt (W : World) (M : DM) (d : Det) : Prop where
  obj : W.heap[M.g]? = some (.cells (dcells M d) 95)
  tab : TabAt W M.gt d.self d.tab
  ord : WaitsAt W M.go M.wb d.s d.ws
  since : SinceAt W M.gm d.since
  prs : PrAt W M.pb d.pr
  ers : Owns Er.cells 4 0 149 W M.ev d.er
  nod : M.own.Nodup
theorem DetAt.cell {W : World} {M : DM} {d : Det} (h : DetAt W M d) (k : Nat) : W.cell? ⟨M.g, k, none⟩ = (dcells M d)[k]? := cell_of_row _ M.g k _ _ _ h.obj
theorem DetAt.frozen {W : World} {M : DM} {d : Det} (h : DetAt W M d) (k : Nat) : W.frozen? ⟨M.g, k, none⟩ = false := by simp [World.frozen?, h.obj]
theorem DetAt.lt {W : World} {M : DM} {d : Det} (h : DetAt W M d) : M.g < W.heap.size := (Array.getElem?_eq_some_iff.1 h.obj).1
theorem DM.mem_g (M : DM) : M.g ∈ M.own := by simp [DM.own]
theorem DM.mem_gt (M : DM) : M.gt ∈ M.own := by simp [DM.own]
theorem DM.mem_go (M : DM) : M.go ∈ M.own := by simp [DM.own]
theorem DM.mem_gm (M : DM) : M.gm ∈ M.own := by simp [DM.own]
theorem DM.mem_pb (M : DM) {b : Nat} (h : M.pb = some b) : b ∈ M.own := by simp [DM.own, h]
theorem DM.mem_ev (M : DM) {b : Nat} (h : M.ev.ownBlock = some b) : b ∈ M.own := by simp [DM.own, h]
theorem DM.mem_wb (M : DM) {b : Nat} (h : M.wb = some b) : b ∈ M.own := by simp [DM.own, h]
theorem nod_ne {M : DM} (h : M.own.Nodup) : M.g ≠ M.gt ∧ M.g ≠ M.go ∧ M.g ≠ M.gm ∧ M.gt ≠ M.go ∧ M.gt ≠ M.gm ∧ M.go ≠ M.gm ∧ (∀ b, M.pb = some b → b ≠ M.g ∧ b ≠ M.gt ∧ b ≠ M.go ∧ b ≠ M.gm) ∧ (∀ b, M.ev.ownBlock = some b → b ≠ M.g ∧ b ≠ M.gt ∧ b ≠ M.go ∧ b ≠ M.gm ∧ M.pb ≠ some b) ∧ (∀ b, M.wb = some b → b ≠ M.g ∧ b ≠ M.gt ∧ b ≠ M.go ∧ b ≠ M.gm ∧ M.pb ≠ some b ∧ M.ev.ownBlock ≠ some b) := by
  unfold DM.own at h
  simp only [List.nodup_cons, List.mem_cons, List.mem_append, not_or, Option.mem_toList, List.nodup_append] at h
  obtain ⟨⟨h1, h2, h3, h4, h5, h6⟩, ⟨k1, k2, k3, k4, k5⟩, ⟨l1, l2, l3, l4⟩, ⟨m1, m2, m3⟩, _, ⟨_, _, n1⟩, n2⟩ := h
  refine ⟨h1, h2, h3, k1, k2, l1, fun b hb => ⟨?_, ?_, ?_, ?_⟩, fun b hb => ⟨?_, ?_, ?_, ?_, ?_⟩, fun b hb => ⟨?_, ?_, ?_, ?_, ?_, ?_⟩⟩
  · rintro rfl; exact h4 hb
  · rintro rfl; exact k3 hb
  · rintro rfl; exact l2 hb
  · rintro rfl; exact m1 hb
  · rintro rfl; exact h5 hb
  · rintro rfl; exact k4 hb
  · rintro rfl; exact l3 hb
  · rintro rfl; exact m2 hb
  · intro e; exact n2 b e b (.inl hb) rfl
  · rintro rfl; exact h6 hb
  · rintro rfl; exact k5 hb
  · rintro rfl; exact l4 hb
  · rintro rfl; exact m3 hb
  · intro e; exact n2 b e b (.inr hb) rfl
  · intro e; exact n1 b e b hb rfl
theorem PrAt.keep {W W' : World} {o : Option Nat} {p : Option (Int × Int)} (h : PrAt W o p) (hb : ∀ b, o = some b → W'.heap[b]? = W.heap[b]?) : PrAt W' o p := by
  cases o with
  | none => cases p with
    | none => trivial
    | some p => exact h
  | some b => cases p with
    | none => exact h
    | some p => exact (hb b rfl).trans h
theorem PrAt.lt {W : World} {o : Option Nat} {p : Option (Int × Int)} (h : PrAt W o p) : ∀ b, o = some b → b < W.heap.size := by
  rintro b rfl
  cases p with
  | none => exact absurd h (by intro h; exact h)
  | some p => exact (Array.getElem?_eq_some_iff.1 (show W.heap[b]? = _ from h)).1
/-- all blocks of its own lie in the world, but for that of waits that are none -/
theorem DetAt.keep {W W' : World} {M : DM} {d : Det} (h : DetAt W M d) (hb : ∀ k ∈ M.own, W'.heap[k]? = W.heap[k]?) : DetAt W' M d where
  obj := (hb _ M.mem_g).trans h.obj
  tab := h.tab.keep (hb _ M.mem_gt)
  ord := h.ord.keep (hb _ M.mem_go) fun b hx => hb b (M.mem_wb hx)
  since := h.since.kept (hb _ M.mem_gm)
  prs := h.prs.keep fun b hx => hb b (M.mem_pb hx)
  ers := h.ers.keep fun b hx => hb b (M.mem_ev hx)
  nod := h.nod
theorem DetAt.own_lt {W : World} {M : DM} {d : Det} (h : DetAt W M d) : ∀ k ∈ M.own, k < W.heap.size := by
  intro k hk
  simp only [DM.own, List.mem_cons, List.mem_append, Option.mem_toList] at hk
  rcases hk with e | e | e | e | e | e | e
  · rw [e]; exact h.lt
  · rw [e]; exact h.tab.lt
  · rw [e]; exact h.ord.lt
  · rw [e]; exact h.since.lt
  · exact h.prs.lt k e
  · exact (h.ers.lt k e).2
  · exact h.ord.lt2 k e
/-- told anew where blocks have turned: what is said of each is shown -/
theorem DetAt.below {W W' : World} {M : DM} {d : Det} (h : DetAt W M d) (hb : Below W.heap.size W W') : DetAt W' M d where
  obj := (hb.block _ h.lt).trans h.obj
  tab := h.tab.keep (hb.block _ h.tab.lt)
  ord := h.ord.keep (hb.block _ h.ord.lt) fun b hx => hb.block b (h.ord.lt2 b hx)
  since := h.since.kept (hb.block _ h.since.lt)
  prs := h.prs.keep fun b hx => hb.block b (h.prs.lt b hx)
  ers := h.ers.keep fun b hx => hb.block b (h.ers.lt b hx).2
  nod := h.nod
/-- the table and the map have turned -/
theorem DetAt.turned {W W' : World} {M : DM} {d : Det} (h : DetAt W M d) (ht : Touch (fun k => k = M.gt ∨ k = M.gm) W W') {t : Tab} {f : Int → Option Int} (h1 : TabAt W' M.gt d.self t) (h2 : SinceAt W' M.gm f) : DetAt W' M { d with tab := t, since := f } := by
  obtain ⟨n1, n2, n3, n4, n5, n6, n7, n8, n9⟩ := nod_ne h.nod
  exact {
    obj := (ht.block _ h.lt (fun e => e.elim (fun e => n1 e) (fun e => n3 e))).trans h.obj
    tab := h1
    ord := h.ord.keep (ht.block _ h.ord.lt (fun e => e.elim (fun e => n4 e.symm) (fun e => n6 e))) fun b hb => ht.block b (h.ord.lt2 b hb) (fun e => e.elim (fun e => (n9 b hb).2.1 e) (fun e => (n9 b hb).2.2.2.1 e))
    since := h2
    prs := h.prs.keep fun b hb => ht.block b (h.prs.lt b hb) (fun e => e.elim (fun e => (n7 b hb).2.1 e) (fun e => (n7 b hb).2.2.2 e))
    ers := h.ers.touch ht fun b hb => fun e => e.elim (fun e => (n8 b hb).2.1 e) (fun e => (n8 b hb).2.2.2.1 e)
    nod := h.nod }
set_option maxRecDepth 100000 in
set_option maxHeartbeats 8000000 in
theorem hear_any (M : DM) (d : Det) (m : Mb) (w : World) (h : DetAt w M d) (hc : FitsI d.clock) :
    Calls Tryz.prog 40 #[.pointer (some ⟨M.g, 0, none⟩), .agg #[.int .i64 m.node, .int .i64 m.st, .int .i64 m.inc]] w fun e w' => e = .returned (.tuple #[]) ∧ DetAt w' M (d.hear m) ∧ Touch (fun k => k = M.gt ∨ k = M.gm) w w' := by
  have hp : Tryz.prog.follows .mixedOrders = true := by kernel_rfl
  have hb1 := (Below.refl w.heap.size w).alloc (Nat.le_refl _) (.cells #[.int .i64 m.node, .int .i64 m.st, .int .i64 m.inc] 45)
  have hr1 := heap_alloc_new w (.cells #[.int .i64 m.node, .int .i64 m.st, .int .i64 m.inc] 45)
  have hD1 := h.below hb1
  obtain ⟨w1, hw1⟩ : ∃ w1, w.alloc (.cells #[.int .i64 m.node, .int .i64 m.st, .int .i64 m.inc] 45) = w1 := ⟨_, rfl⟩
  have hsz : w1.heap.size = w.heap.size + 1 := by rw [← hw1]; exact World.size_alloc _ _
  rw [hw1] at hb1 hr1 hD1
  have k5 : w1.cell? ⟨M.g, 5, none⟩ = some (.pointer (some ⟨M.gt, 0, none⟩)) := hD1.cell 5
  have q0 := cell_of_row w1 w.heap.size 0 _ _ _ hr1
  have q1 := cell_of_row w1 w.heap.size 1 _ _ _ hr1
  have q2 := cell_of_row w1 w.heap.size 2 _ _ _ hr1
  simp only [List.getElem?_toArray, List.getElem?_cons_zero, List.getElem?_cons_succ] at q0 q1 q2
  have hht := hearTab_any M.gt d.self d.tab m w1.drew hD1.tab
  have HHT := Lib.hid hht
  have HD1 := Lib.hid hD1
  have HB1 := Lib.hid hb1
  have HR1 := Lib.hid hr1
  have HW1 := Lib.hid hw1
  clear hht hD1 hb1 hr1 hw1 h
  go_enter Tryz.func40, Tryz.ntmps40
  go_wp2_with fail
  rw [HW1.out]
  go_cut [4, 5] (fun s4 s5 wx => ∃ z : Int, s4 = .bool (decide m.may && newsT d.tab m) ∧ s5 = .int .i64 z ∧ Hid (TabAt wx M.gt d.self (hearT d.tab m)) ∧ Hid (w1.grownBy wx (some M.gt)))
  case first =>
    go_region_law (first | (go_simp; refine HHT.out.mono ?_; rintro e w2 ⟨z, rfl, hz1, hz2, hT2, hg2⟩))
    all_goals
      go_wp2_with fail
      go_meet
      exact ⟨z, rfl, rfl, hT2, gb_then (gb_drew w1 _) hg2 fun j hj => .inr hj⟩
  case rest =>
    obtain ⟨z, rfl, rfl, HT2, HG2⟩ := hcut
    have hsz2 := HG2.out.size
    have hb2 : ∀ k, k < w1.heap.size → k ≠ M.gt → wc.heap[k]? = w1.heap[k]? := fun k hk hne => HG2.out.block k hk fun e => hne (Option.some.inj e)
    obtain ⟨n1, n2, n3, n4, n5, n6, n7, n8, n9⟩ := nod_ne HD1.out.nod
    have hgl := HD1.out.lt
    have hgtl := HD1.out.tab.lt
    have hgml := HD1.out.since.lt
    have hD2 := HD1.out.turned (t := hearT d.tab m) (f := d.since) (Touch.of_grown HG2.out fun j hj => .inl (Option.some.inj hj).symm) HT2.out (HD1.out.since.kept (hb2 _ hgml n5.symm))
    have c0 : wc.cell? ⟨M.g, 0, none⟩ = some (.int .i64 d.self) := hD2.cell 0
    have c7 : wc.cell? ⟨M.g, 7, none⟩ = some (.int .i64 d.clock) := hD2.cell 7
    have c11 : wc.cell? ⟨M.g, 11, none⟩ = some (.map (some M.gm)) := hD2.cell 11
    have hne1 : w.heap.size ≠ M.gt := by
      have := HD1.out.tab
      intro e
      rw [← e] at this
      have h1 := HR1.out
      rw [show w1.heap[w.heap.size]? = _ from this] at h1
      injection h1 with h2
      injection h2 with h3 h4
      exact absurd h4 (by decide)
    have p0 : wc.cell? ⟨w.heap.size, 0, none⟩ = some (.int .i64 m.node) := (World.cell?_of_block (a := ⟨w.heap.size, 0, none⟩) (hb2 w.heap.size (by omega) hne1)).trans q0
    have p1 : wc.cell? ⟨w.heap.size, 1, none⟩ = some (.int .i64 m.st) := (World.cell?_of_block (a := ⟨w.heap.size, 1, none⟩) (hb2 w.heap.size (by omega) hne1)).trans q1
    have ht2 : Touch (fun k => k = M.gt ∨ k = M.gm) w wc := (Touch.of_below HB1.out (Nat.le_refl _)).trans (Touch.of_grown (L := fun k => k = M.gt ∨ k = M.gm) HG2.out fun j hj => .inl (Option.some.inj hj).symm) fun _ _ h => h
    have HD2 := Lib.hid hD2
    have HTT := Lib.hid ht2
    clear hD2 ht2 HG2 HHT k5 q0 q1 q2 HW1 HB1 HD1 HR1 hb2 HT2
    by_cases hm : m.may
    · have hmd := decide_eq_true hm
      have hk : ∃ k : Nat, m.node = (k : Int) ∧ k < 8 := ⟨m.node.toNat, by have := hm.1; omega, by have := hm.1; have := hm.2.1; omega⟩
      obtain ⟨k, hk, hk8⟩ := hk
      by_cases hn : newsT d.tab m = true
      · rw [hmd, hn]
        by_cases hs : m.node = d.self
        · have hh : d.hear m = { d with tab := hearT d.tab m, since := d.since } := by unfold Det.hear hearT; rw [if_pos ⟨hm, hn⟩, if_pos hs, if_pos ⟨hm, hn⟩]
          have HH := Lib.hid hh
          clear hh hmd hn
          go_wp2_with fail
          go_quiet (fail)
          go_wp2_with fail
          refine bodyPost_ret (v := .tuple #[]) (by simp [results, Tryz.results40, go_sem]) rfl ?_
          rw [HH.out]
          exact ⟨rfl, HD2.out.keep (fun _ _ => rfl), HTT.out.trans (Touch.of_grown (L := fun k => k = M.gt ∨ k = M.gm) (gb_drewN wc nq none) (fun j hj => by cases hj)) (fun _ _ h => h)⟩
        · have hsb : (m.node == d.self) = false := by simpa using hs
          have hlw : w.heap.size ≠ M.gm := fun e => by
            have h1 := HD2.out.since.lt
            obtain ⟨D, ⟨es, clock, h2, _⟩, _⟩ := HD2.out.since
            have h3 := p0
            rw [e] at h3
            unfold World.cell? at h3
            rw [h2] at h3
            simp at h3
          clear hmd
          go_wp2_with fail
          go_quiet (fail)
          obtain ⟨w3, hdel, hS3, hg3⟩ := SinceAt.drop (w := wc.drewN (nq + 1)) HD2.out.since k hk8 0
          have hb3 : ∀ j, j < wc.heap.size → j ≠ M.gm → w3.heap[j]? = wc.heap[j]? := fun j hj hne => hg3.block j hj fun e => hne (Option.some.inj e)
          have hD3 := HD2.out.turned (W' := w3) (t := hearT d.tab m) (f := updI d.since (k : Int) none) ((Touch.of_grown (L := fun k => k = M.gt ∨ k = M.gm) (gb_drewN wc (nq + 1) none) (fun j hj => by cases hj)).trans (Touch.of_grown (L := fun k => k = M.gt ∨ k = M.gm) hg3 fun j hj => .inr (Option.some.inj hj).symm) fun _ _ h => h) (HD2.out.tab.keep (hb3 _ HD2.out.tab.lt n5)) hS3
          have e7 : w3.cell? ⟨M.g, 7, none⟩ = some (.int .i64 d.clock) := hD3.cell 7
          have e11 : w3.cell? ⟨M.g, 11, none⟩ = some (.map (some M.gm)) := hD3.cell 11
          have hwl : w.heap.size < wc.heap.size := by omega
          have r0 : w3.cell? ⟨w.heap.size, 0, none⟩ = some (.int .i64 (k : Int)) := (World.cell?_of_block (a := ⟨w.heap.size, 0, none⟩) (hb3 _ hwl hlw)).trans (by rw [← hk]; exact p0)
          have r1 : w3.cell? ⟨w.heap.size, 1, none⟩ = some (.int .i64 m.st) := (World.cell?_of_block (a := ⟨w.heap.size, 1, none⟩) (hb3 _ hwl hlw)).trans p1
          have HT3 := Lib.hid (HTT.out.trans ((Touch.of_grown (L := fun k => k = M.gt ∨ k = M.gm) (gb_drewN wc (nq + 1) none) (fun j hj => by cases hj)).trans (Touch.of_grown (L := fun k => k = M.gt ∨ k = M.gm) hg3 fun j hj => .inr (Option.some.inj hj).symm) fun _ _ h => h) (fun _ _ h => h))
          have HD3 := Lib.hid hD3
          obtain ⟨w4, hst4, hS4, hg4⟩ := hD3.since.store (w := w3.drew) k hk8 d.clock hc
          have hb4 : ∀ j, j < w3.heap.size → j ≠ M.gm → w4.heap[j]? = w3.heap[j]? := fun j hj hne => hg4.block j hj fun e => hne (Option.some.inj e)
          have hu : updI (updI d.since (k : Int) none) (k : Int) (some d.clock) = updI d.since (k : Int) (some d.clock) := by
            funext x; unfold updI; split <;> rfl
          have ht4 : Touch (fun k => k = M.gt ∨ k = M.gm) w3 w4 := (Touch.of_grown (L := fun k => k = M.gt ∨ k = M.gm) (gb_drewN w3 1 none) (fun j hj => by cases hj)).trans (Touch.of_grown (L := fun k => k = M.gt ∨ k = M.gm) hg4 fun j hj => .inr (Option.some.inj hj).symm) fun _ _ h => h
          have hD4 := hD3.turned (W' := w4) (t := hearT d.tab m) (f := updI d.since (k : Int) (some d.clock)) ht4 (hD3.tab.keep (hb4 _ hD3.tab.lt n5)) (by rw [← hu]; exact hS4)
          have HD4 := Lib.hid hD4
          have HT4 := Lib.hid (HT3.out.trans ht4 fun _ _ h => h)
          have hh : d.hear m = { d with tab := hearT d.tab m, since := updI d.since (k : Int) (if m.st = 2 then some d.clock else none) } := by
            unfold Det.hear
            rw [if_pos ⟨hm, hn⟩, if_neg hs, show hearT d.tab m = updT d.tab m.node.toNat ⟨m.st, m.inc⟩ from if_pos ⟨hm, hn⟩, hk]
          have HH := Lib.hid hh
          clear hh hD4 ht4 hu hb4 hg4 hS4 hb3 hD3 hS3 hg3 hn hm p1 hlw hwl c0 c7
          by_cases hst : m.st = 2
          · have hst' : (m.st == 2) = true := by simpa using hst
            have hh2 : d.hear m = { d with tab := hearT d.tab m, since := updI d.since (k : Int) (some d.clock) } := by rw [HH.out, if_pos hst]
            have HH2 := Lib.hid hh2
            clear hh2
            go_wp2_with fail
            go_region_law (fail)
            all_goals
              clear hdel
              go_wp2_with fail
              go_region_law (fail)
              all_goals
                go_wp2_with fail
                go_end0
                rw [HH2.out]
                exact ⟨rfl, HD4.out, HT4.out⟩
          · have hst' : (m.st == 2) = false := by simpa using hst
            have hh2 : d.hear m = { d with tab := hearT d.tab m, since := updI d.since (k : Int) none } := by rw [HH.out, if_neg hst]
            have HH2 := Lib.hid hh2
            clear hh2 hst4
            go_wp2_with fail
            go_region_law (fail)
            all_goals
              clear hdel
              go_wp2_with fail
              go_end0
              rw [HH2.out]
              exact ⟨rfl, HD3.out, HT3.out⟩
      · have hnf : newsT d.tab m = false := by simpa using hn
        have hh : d.hear m = { d with tab := hearT d.tab m, since := d.since } := by unfold Det.hear hearT; rw [if_neg (fun h => hn h.2), if_neg (fun h => hn h.2)]
        have HH := Lib.hid hh
        rw [hmd, hnf]
        clear hh hmd hn hnf
        go_wp2_with fail
        go_quiet (fail)
        go_wp2_with fail
        refine bodyPost_ret (v := .tuple #[]) (by simp [results, Tryz.results40, go_sem]) rfl ?_
        rw [HH.out]
        exact ⟨rfl, HD2.out.keep (fun _ _ => rfl), HTT.out.trans (Touch.of_grown (L := fun k => k = M.gt ∨ k = M.gm) (gb_drewN wc nq none) (fun j hj => by cases hj)) (fun _ _ h => h)⟩
    · have hmf : decide m.may = false := decide_eq_false hm
      have hh : d.hear m = { d with tab := hearT d.tab m, since := d.since } := by unfold Det.hear hearT; rw [if_neg (fun h => hm h.1), if_neg (fun h => hm h.1)]
      have HH := Lib.hid hh
      rw [hmf]
      clear hh hmf hm
      go_wp2_with fail
      go_quiet (fail)
      go_wp2_with fail
      refine bodyPost_ret (v := .tuple #[]) (by simp [results, Tryz.results40, go_sem]) rfl ?_
      rw [HH.out]
      exact ⟨rfl, HD2.out.keep (fun _ _ => rfl), HTT.out.trans (Touch.of_grown (L := fun k => k = M.gt ∨ k = M.gm) (gb_drewN wc nq none) (fun j hj => by cases hj)) (fun _ _ h => h)⟩
end Go.Proofs.YtejihgfigclppaaGreat
