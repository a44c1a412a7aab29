/-
  (*gossip.Gossip).told walked: a digest is answered.
-/
import Derived.Test.YtenkfnhcdfmkaaaGreatGosT
import Derived.Test.YtenkfnhcdfmkaaaGreatGosG
import Derived.Test.YtenkfnhcdfmkaaaGreatMBookNewF
import Derived.Test.YtenkfnhcdfmkaaaGreatMDelDots
import Derived.Deep.RegionHeld
import Derived.BigQuiet
import Derived.Deep.QuietTactic
namespace Go.Proofs.YtenkfnhcdfmkaaaGreat
open Go.RowKit Go.Lib Go.Shelf
set_option linter.unusedVariables false
set_option linter.unusedSimpArgs false
noncomputable def asksB (S : BookS) (m : Msg) : Bool := decide (m.seq = 0) && decide (0 < ((dotsOf m.set.grid).filter fun d => !S.saw d.node.toNat d.seq.toNat).length)
structure Told (x : Gsp) (m : Msg) (ds : List Msg) (tail : List Msg) : Prop where
  pieces : ∃ ps : List PEv, ps.map (·.2) = newerB x.S m.set.grid 768 ∧ Pieces x.mtu ps (ds.map fun d => d.evs.map (·.2))
  deltas : ∀ d ∈ ds, d.kind = 5 ∧ d.frm = x.self ∧ d.to_ = m.frm ∧ d.seq = 0 ∧ d.node = 0 ∧ (∀ n, d.u n = 0) ∧ d.more = [] ∧ d.ms = []
  tail : if asksB x.S m = true then ∃ t, tail = [t] ∧ IsDigest x.S x.self m.frm 1 t else tail = []
def delta0 (self to_ : Int) (ps : List PEv) (hd : Hdr) : Msg := ⟨5, self, to_, 0, 0, fun _ => 0, [], ps, [], ⟨none, 0, 0⟩, hd, ⟨none, 0, 0⟩⟩
theorem newerB_right {S : BookS} (h : S.Fine) {g : Grid} {n : Int} {e : Ev} (he : e ∈ newerB S g n) : RightEv e := h.right e (List.mem_filter.1 (List.mem_of_mem_take he)).1
theorem delta0_right {self to_ : Int} {ps : List PEv} {hd : Hdr} {S : BookS} {g : Grid} (h1 : 0 ≤ self ∧ self ≤ 7) (h2 : 0 ≤ to_ ∧ to_ ≤ 7) (hne : self ≠ to_) (hf : S.Fine) (hps : ps.map (·.2) = newerB S g 768) : (delta0 self to_ ps hd).right where
  kind := by show (1 : Int) ≤ 5 ∧ (5 : Int) ≤ 5; omega
  frm := h1
  to_ := h2
  ne := hne
  ms := ⟨(fun m hm => by cases hm), List.Pairwise.nil⟩
  seq := ⟨Int.le_refl 0, by show (0 : Int) ≤ seqMost 5; decide⟩
  node := .inr rfl
  seen := by show if (5 : Int) = 4 then _ else _; rw [if_neg (by decide)]; exact ⟨noUpto_zero, rfl⟩
  evs := by
    show if (5 : Int) = 5 then _ else _
    rw [if_pos rfl]
    refine ⟨fun p hp => newerB_right hf (g := g) (n := 768) (by rw [← hps]; exact List.mem_map_of_mem hp), ?_⟩
    show ps.length ≤ 768
    have := congrArg List.length hps
    rw [List.length_map] at this
    rw [this]
    unfold newerB
    rw [List.length_take]
    exact Nat.min_le_left _ _
theorem delta0_small {self to_ : Int} {ps : List PEv} {hd : Hdr} {S : BookS} {g : Grid} (hf : S.Fine) (hps : ps.map (·.2) = newerB S g 768) : (delta0 self to_ ps hd).small where
  more := Nat.zero_le _
  ms := Nat.zero_le _
  evs := by
    show ps.length ≤ 3000
    have := congrArg List.length hps
    rw [List.length_map] at this
    rw [this]
    unfold newerB
    rw [List.length_take]
    exact Nat.le_trans (Nat.min_le_left _ _) (by decide)
  rems := fun p hp => by
    have h1 : RightEv p.2 := newerB_right hf (g := g) (n := 768) (by rw [← hps]; exact List.mem_map_of_mem hp)
    have := h1.2.2.2.1
    omega
theorem Pieces.len {mtu : Nat} {l : List PEv} {cs : List (List Ev)} (h : Pieces mtu l cs) : cs.length ≤ l.length := by
  induction h with
  | nil => exact Nat.le_refl _
  | @cons l n cs h1 h2 h3 ih =>
    have := h2.le
    rw [List.length_drop] at ih
    rw [List.length_cons]
    omega
set_option maxRecDepth 100000 in
set_option maxHeartbeats 4000000 in
theorem told_any (M : GM) (x : Gsp) (hok : x.Ok) (m : Msg) (hs : m.small) (hr : m.right) (hto : m.to_ = x.self) (w : World) (h : GAt w M x) (hm : MsgIn w m) :
    Calls Tryz.prog 49 #[.pointer (some ⟨M.g, 0, none⟩), .agg #[.int .i64 m.kind, .int .i64 m.frm, .int .i64 m.to_, .int .i64 m.seq, .int .i64 m.node, .int .i64 (m.u 0), .int .i64 (m.u 1), .int .i64 (m.u 2), .int .i64 (m.u 3), .int .i64 (m.u 4), .int .i64 (m.u 5), .int .i64 (m.u 6), .int .i64 (m.u 7), m.hm.val, m.he.val, m.hs.val]] w fun e w' => ∃ (v : Value) (ds tail : List Msg), e = .returned (.agg #[v, .slice none 0 0]) ∧ MRow w.heap.size w' v (ds ++ tail) ∧ Told x m ds tail ∧ GAt w' M x ∧ Below w.heap.size w w' := by
  have hp : Tryz.prog.follows .mixedOrders = true := by kernel_rfl
  have hp2 : Tryz.prog.follows .lateStores = true := by kernel_rfl
  obtain ⟨oa, cap, hmv⟩ := slAt_slice hm.more
  obtain ⟨r0, r1, hb2, hsz2⟩ := alloc2 w (.cells #[.int .i64 m.kind, .int .i64 m.frm, .int .i64 m.to_, .int .i64 m.seq, .int .i64 m.node, .int .i64 (m.u 0), .int .i64 (m.u 1), .int .i64 (m.u 2), .int .i64 (m.u 3), .int .i64 (m.u 4), .int .i64 (m.u 5), .int .i64 (m.u 6), .int .i64 (m.u 7), .slice oa m.more.length cap, m.he.val, m.hs.val] 38) (.cells #[.slice none 0 0, .slice none 0 0] 112)
  obtain ⟨w2, hw2⟩ : ∃ w2, (w.alloc (.cells #[.int .i64 m.kind, .int .i64 m.frm, .int .i64 m.to_, .int .i64 m.seq, .int .i64 m.node, .int .i64 (m.u 0), .int .i64 (m.u 1), .int .i64 (m.u 2), .int .i64 (m.u 3), .int .i64 (m.u 4), .int .i64 (m.u 5), .int .i64 (m.u 6), .int .i64 (m.u 7), .slice oa m.more.length cap, m.he.val, m.hs.val] 38)).alloc (.cells #[.slice none 0 0, .slice none 0 0] 112) = w2 := ⟨_, rfl⟩
  rw [hw2] at r0 r1 hb2 hsz2
  have hsz2a := Nat.le_of_eq hsz2
  have hsz2b := Nat.le_of_eq hsz2.symm
  clear hsz2
  have hne : x.self ≠ m.frm := fun e => hr.ne (by rw [hto, e])
  obtain ⟨w3, hw3⟩ : ∃ w3, w2.alloc (.cells #[.int .i64 (m.u 0), .int .i64 (m.u 1), .int .i64 (m.u 2), .int .i64 (m.u 3), .int .i64 (m.u 4), .int .i64 (m.u 5), .int .i64 (m.u 6), .int .i64 (m.u 7), .slice oa m.more.length cap] 48) = w3 := ⟨_, rfl⟩
  have hb3 : Below w2.heap.size w2 w3 := by rw [← hw3]; exact (Below.refl _ _).alloc (Nat.le_refl _) _
  have r3 : w3.heap[w2.heap.size]? = some (.cells #[.int .i64 (m.u 0), .int .i64 (m.u 1), .int .i64 (m.u 2), .int .i64 (m.u 3), .int .i64 (m.u 4), .int .i64 (m.u 5), .int .i64 (m.u 6), .int .i64 (m.u 7), .slice oa m.more.length cap] 48) := by rw [← hw3]; exact heap_alloc_new w2 _
  have hz3 : w2.heap.size < w3.heap.size := (Array.getElem?_eq_some_iff.1 r3).1
  have hbb := hb2.trans (hb3.mono (by omega))
  have hg3 := h.below hbb (Nat.le_refl _)
  have hm3 := hm.below hbb (Nat.le_refl _)
  have hsl3 : SlAt Dot.cells w3 (.slice oa m.more.length cap) m.more := hmv ▸ hm3.more
  have hml := hs.more
  have q0 := (hb3.block w.heap.size (by omega)).trans r0
  have q1 := (hb3.block (w.heap.size + 1) (by omega)).trans r1
  have hrow : ∀ W, Below w3.heap.size w3 W → GAt W M x ∧ W.heap[w.heap.size]? = some (.cells #[.int .i64 m.kind, .int .i64 m.frm, .int .i64 m.to_, .int .i64 m.seq, .int .i64 m.node, .int .i64 (m.u 0), .int .i64 (m.u 1), .int .i64 (m.u 2), .int .i64 (m.u 3), .int .i64 (m.u 4), .int .i64 (m.u 5), .int .i64 (m.u 6), .int .i64 (m.u 7), .slice oa m.more.length cap, m.he.val, m.hs.val] 38) ∧ W.heap[w.heap.size + 1]? = some (.cells #[.slice none 0 0, .slice none 0 0] 112) ∧ W.heap[w2.heap.size]? = some (.cells #[.int .i64 (m.u 0), .int .i64 (m.u 1), .int .i64 (m.u 2), .int .i64 (m.u 3), .int .i64 (m.u 4), .int .i64 (m.u 5), .int .i64 (m.u 6), .int .i64 (m.u 7), .slice oa m.more.length cap] 48) := fun W hW => ⟨hg3.below hW (Nat.le_refl _), (hW.block _ (by omega)).trans q0, (hW.block _ (by omega)).trans q1, (hW.block _ hz3).trans r3⟩
  have HROW := Lib.hid hrow
  have HKP : Hid (∀ w', Below w3.heap.size w3 w' → w'.cell? ⟨M.g, 0, none⟩ = some (.int .i64 x.self) ∧ w'.cell? ⟨M.g, 1, none⟩ = some (.int .i64 x.mtu) ∧ w'.cell? ⟨M.g, 3, none⟩ = some (.pointer (some ⟨M.bb, 0, none⟩)) ∧ w'.cell? ⟨w.heap.size, 1, none⟩ = some (.int .i64 m.frm) ∧ w'.cell? ⟨w2.heap.size, 0, none⟩ = some (.int .i64 (m.u 0)) ∧ w'.cell? ⟨w2.heap.size, 1, none⟩ = some (.int .i64 (m.u 1)) ∧ w'.cell? ⟨w2.heap.size, 2, none⟩ = some (.int .i64 (m.u 2)) ∧ w'.cell? ⟨w2.heap.size, 3, none⟩ = some (.int .i64 (m.u 3)) ∧ w'.cell? ⟨w2.heap.size, 4, none⟩ = some (.int .i64 (m.u 4)) ∧ w'.cell? ⟨w2.heap.size, 5, none⟩ = some (.int .i64 (m.u 5)) ∧ w'.cell? ⟨w2.heap.size, 6, none⟩ = some (.int .i64 (m.u 6)) ∧ w'.cell? ⟨w2.heap.size, 7, none⟩ = some (.int .i64 (m.u 7)) ∧ w'.cell? ⟨w2.heap.size, 8, none⟩ = some (.slice oa m.more.length cap)) := fun W hW => by
    obtain ⟨h1, h2, h3, h4⟩ := hrow W hW
    obtain ⟨a0, a1, a2, a3⟩ := h1.cells
    exact ⟨a0, a1, a3, cell_of_row W _ 1 _ _ _ h2, cell_of_row W _ 0 _ _ _ h4, cell_of_row W _ 1 _ _ _ h4, cell_of_row W _ 2 _ _ _ h4, cell_of_row W _ 3 _ _ _ h4, cell_of_row W _ 4 _ _ _ h4, cell_of_row W _ 5 _ _ _ h4, cell_of_row W _ 6 _ _ _ h4, cell_of_row W _ 7 _ _ _ h4, cell_of_row W _ 8 _ _ _ h4⟩
  have hgl3 := h.lt
  have HKS : Hid (∀ W v w', Below w3.heap.size w3 W → w' = W.setCell ⟨w.heap.size + 1, 0, none⟩ v → w'.cell? ⟨M.g, 0, none⟩ = some (.int .i64 x.self) ∧ w'.cell? ⟨M.g, 1, none⟩ = some (.int .i64 x.mtu) ∧ w'.cell? ⟨M.g, 3, none⟩ = some (.pointer (some ⟨M.bb, 0, none⟩)) ∧ w'.cell? ⟨w.heap.size, 1, none⟩ = some (.int .i64 m.frm) ∧ w'.cell? ⟨w2.heap.size, 0, none⟩ = some (.int .i64 (m.u 0)) ∧ w'.cell? ⟨w2.heap.size, 1, none⟩ = some (.int .i64 (m.u 1)) ∧ w'.cell? ⟨w2.heap.size, 2, none⟩ = some (.int .i64 (m.u 2)) ∧ w'.cell? ⟨w2.heap.size, 3, none⟩ = some (.int .i64 (m.u 3)) ∧ w'.cell? ⟨w2.heap.size, 4, none⟩ = some (.int .i64 (m.u 4)) ∧ w'.cell? ⟨w2.heap.size, 5, none⟩ = some (.int .i64 (m.u 5)) ∧ w'.cell? ⟨w2.heap.size, 6, none⟩ = some (.int .i64 (m.u 6)) ∧ w'.cell? ⟨w2.heap.size, 7, none⟩ = some (.int .i64 (m.u 7)) ∧ w'.cell? ⟨w2.heap.size, 8, none⟩ = some (.slice oa m.more.length cap)) := fun W v w' hW e => by
    have hk : ∀ k, k ≠ w.heap.size + 1 → ∀ o, w'.cell? ⟨k, o, none⟩ = W.cell? ⟨k, o, none⟩ := fun k hk o => by rw [e]; exact World.cell?_of_block (a := ⟨k, o, none⟩) (Below.heap_setCell W ⟨w.heap.size + 1, 0, none⟩ v k hk)
    have h1 := HKP.out W hW
    simp only [hk M.g (by omega), hk w.heap.size (by omega), hk w2.heap.size (by omega)]
    exact h1
  have HKZ : Hid (∀ W, Below w3.heap.size w3 W → W.cell? ⟨w.heap.size + 1, 0, none⟩ = some (.slice none 0 0) ∧ W.frozen? ⟨w.heap.size + 1, 0, none⟩ = false) := fun W hW => by
    obtain ⟨h1, h2, h3, h4⟩ := hrow W hW
    exact ⟨cell_of_row W _ 0 _ _ _ h3, by unfold World.frozen?; rw [h3]; simp⟩
  have HNW := Lib.hid (newer_any M.bb M.ms M.mh M.B x.S oa cap m.set 768 w3.drew (hg3.below (below_drew (Below.refl w3.heap.size w3)) (Nat.le_refl _)).book hok.fine.by' (fun e he => by have := (hok.fine.right e he).2.2.2.1; omega) (hsl3.below Dot.cells_len (by decide) (below_drew (Below.refl w3.heap.size w3)) (Nat.le_refl _)) (by show m.more.length ≤ _; omega))
  have HSP : Hid (∀ (hd : Hdr) (ps : List PEv) W, ps.map (·.2) = newerB x.S m.set.grid 768 → EvsAt W hd.val ps → Calls Tryz.prog 83 #[.agg #[.int .i64 5, .int .i64 x.self, .int .i64 m.frm, .int .i64 0, .int .i64 0, .int .i64 0, .int .i64 0, .int .i64 0, .int .i64 0, .int .i64 0, .int .i64 0, .int .i64 0, .int .i64 0, .slice none 0 0, hd.val, .slice none 0 0], .int .i64 x.mtu] W fun e w' => ∃ (v : Value) (l : List Msg), e = .returned (.tuple #[v, .int .i64 0]) ∧ MRow W.heap.size w' v l ∧ Pieces x.mtu ps (l.map fun y => y.evs.map (·.2)) ∧ (∀ y ∈ l, y.like (delta0 x.self m.frm ps hd)) ∧ Below W.heap.size W w') := fun hd ps W h1 h2 =>
    split_any (delta0 x.self m.frm ps hd) (delta0_small hok.fine h1) (delta0_right hok.self hr.frm hne hok.fine h1) rfl rfl x.mtu hok.mtu W ⟨SlAt.nil _ _, h2, SlAt.nil _ _⟩
  have HLE : Hid (∀ (rb : Option Addr) (cb : Nat) (t : DSet) W, SlAt Dot.cells W (.slice oa m.more.length cap) m.more → SlAt Dot.cells W (.slice rb t.more.length cb) t.more → t.more.length ≤ 1000000 → Calls Tryz.prog 16 #[.agg #[.int .i64 (m.u 0), .int .i64 (m.u 1), .int .i64 (m.u 2), .int .i64 (m.u 3), .int .i64 (m.u 4), .int .i64 (m.u 5), .int .i64 (m.u 6), .int .i64 (m.u 7), .slice oa m.more.length cap], .agg #[.int .i64 (t.u 0), .int .i64 (t.u 1), .int .i64 (t.u 2), .int .i64 (t.u 3), .int .i64 (t.u 4), .int .i64 (t.u 5), .int .i64 (t.u 6), .int .i64 (t.u 7), .slice rb t.more.length cb]] W fun e w' => ∃ o n c, e = .returned (.slice o n c) ∧ n = (lessD m.set t).length ∧ Below W.heap.size W w') := fun rb cb t W h1 h2 h3 => less_any oa rb cap cb m.set t W h1 h2 (by show m.more.length ≤ _; omega) h3
  have HDG := Lib.hid (fun W (hW : GAt W M x) => digest_any M x hok m.frm 1 W hW)
  have HSL := Lib.hid hsl3
  have HSL0 : Hid (SlAt Dot.cells w (.slice oa m.more.length cap) m.more) := hmv ▸ hm.more
  have HOW := Lib.hid (fun k hk => h.own_lt (k := k) hk)
  have HG0 := Lib.hid h
  have HW2 := Lib.hid hw2
  have HW3 := Lib.hid hw3
  have HBB := Lib.hid hbb
  have HG3 := Lib.hid hg3
  have HFN := Lib.hid hok.fine
  obtain ⟨c0, c1, c2, c3, c4, c5, c6, c7, c8, c9, c10, c11, c12, c13, c14, c15⟩ := msg_cells r0
  rw [hmv]
  clear hw2 hw3 hb2 hb3 r0 r1 r3 hbb hg3 hm3 hrow q0 q1 h hm hs hok hr hto hsl3 hmv
  go_enter Tryz.func49, Tryz.ntmps49
  go_upto_region 1 with fail
  rw [HW2.out]
  go_upto_region 2 with fail
  rw [HW3.out]
  clear c0 c1 c2 c3 c4 c5 c6 c7 c8 c9 c10 c11 c12 c13 c14 c15
  go_cut [] (fun wx => ∃ (v : Value) (ds : List Msg) (ps : List PEv) (hd : Hdr), Hid (wx.heap[w.heap.size + 1]? = some (.cells #[v, .slice none 0 0] 112)) ∧ Hid (ps.map (·.2) = newerB x.S m.set.grid 768) ∧ Hid (MRow w3.heap.size wx v ds) ∧ Hid (Pieces x.mtu ps (ds.map fun y => y.evs.map (·.2))) ∧ Hid (∀ y ∈ ds, y.like (delta0 x.self m.frm ps hd)) ∧ Hid (∃ W, Below w3.heap.size w3 W ∧ wx = W.setCell ⟨w.heap.size + 1, 0, none⟩ v))
  case first =>
    go_region_held (fun w' => w'.cell? ⟨M.g, 0, none⟩ = some (.int .i64 x.self) ∧ w'.cell? ⟨M.g, 1, none⟩ = some (.int .i64 x.mtu) ∧ w'.cell? ⟨M.g, 3, none⟩ = some (.pointer (some ⟨M.bb, 0, none⟩)) ∧ w'.cell? ⟨w.heap.size, 1, none⟩ = some (.int .i64 m.frm) ∧ w'.cell? ⟨w2.heap.size, 0, none⟩ = some (.int .i64 (m.u 0)) ∧ w'.cell? ⟨w2.heap.size, 1, none⟩ = some (.int .i64 (m.u 1)) ∧ w'.cell? ⟨w2.heap.size, 2, none⟩ = some (.int .i64 (m.u 2)) ∧ w'.cell? ⟨w2.heap.size, 3, none⟩ = some (.int .i64 (m.u 3)) ∧ w'.cell? ⟨w2.heap.size, 4, none⟩ = some (.int .i64 (m.u 4)) ∧ w'.cell? ⟨w2.heap.size, 5, none⟩ = some (.int .i64 (m.u 5)) ∧ w'.cell? ⟨w2.heap.size, 6, none⟩ = some (.int .i64 (m.u 6)) ∧ w'.cell? ⟨w2.heap.size, 7, none⟩ = some (.int .i64 (m.u 7)) ∧ w'.cell? ⟨w2.heap.size, 8, none⟩ = some (.slice oa m.more.length cap)) (first | exact HKS.out _ _ _ B29.out rfl | exact HKP.out _ B29.out | exact HKP.out _ B23.out | exact HKP.out _ (below_drew (Below.refl _ _)))
      (first
        | (go_at_call 84; refine HNW.out.mono ?_; rintro e w7 ⟨⟨ha, hn, hc⟩, ps, rfl, hps, hacc, hb7⟩; simp only [Hdr.val] at hacc ⊢; have B23 := Lib.hid ((below_drew (Below.refl w3.heap.size w3)).trans hb7); have HPS := Lib.hid hps; have hsp7 := HSP.out ⟨ha, hn, hc⟩ ps w7 hps hacc.evs; simp only [Hdr.val] at hsp7; have HSP7 := Lib.hid hsp7; clear hsp7 hps hacc hb7 HNW)
        | (go_at_call 83; refine HSP7.out.mono ?_; rintro e w8 ⟨v8, ds, rfl, hrow8, hpc8, hlk8, hb8⟩; obtain ⟨o8, c8, hv8⟩ := slAt_slice hrow8.row.at; subst hv8; have B29 := Lib.hid (B23.out.trans (hb8.mono B23.out.size)); have HRW8 := Lib.hid (hrow8.lower B23.out.size); have HPC8 := Lib.hid hpc8; have HLK8 := Lib.hid hlk8; obtain ⟨z8, y8⟩ := HKZ.out _ B29.out; clear hrow8 hpc8 hlk8 hb8 HSP7))
    all_goals
      go_wp2_with fail
      go_meet
      exact ⟨.slice o8 ds.length c8, ds, ps, ⟨ha, hn, hc⟩, heap_cellSame w8 (w.heap.size + 1) 0 _ _ (.slice o8 ds.length c8) (HROW.out _ B29.out).2.2.1, HPS.out, HRW8.out.keep (fun g hg _ => Below.heap_setCell w8 ⟨w.heap.size + 1, 0, none⟩ _ g (by show g ≠ w.heap.size + 1; omega)), HPC8.out, HLK8.out, w8, B29.out, rfl⟩
  case rest =>
    obtain ⟨v, ds, ps, hd, HRA, HPS, HMR, HPC, HLK, HWW⟩ := hcut
    obtain ⟨W, hW, hwx⟩ := HWW.out
    obtain ⟨h1, h2, h3, h4⟩ := HROW.out W hW
    have hk : ∀ k, k ≠ w.heap.size + 1 → wc.heap[k]? = W.heap[k]? := fun k hk => by rw [hwx]; exact Below.heap_setCell W ⟨w.heap.size + 1, 0, none⟩ v k hk
    have hzc : wc.heap.size = W.heap.size := by rw [hwx]; simp [World.setCell]
    have hzc2 : w3.heap.size ≤ wc.heap.size := by rw [hzc]; exact hW.size
    have hgc : GAt wc M x := h1.turn h3 (by decide) (Nat.le_of_eq hzc.symm) (fun k _ hne => hk k hne) (fun e => by have := HOW.out _ e; omega) (by omega)
    have hbc : Below w.heap.size w wc := by rw [hwx]; exact (HBB.out.trans (hW.mono (by omega))).setCell (p := ⟨w.heap.size + 1, 0, none⟩) (by show w.heap.size ≤ w.heap.size + 1; omega) _
    have h2c := (hk w.heap.size (by omega)).trans h2
    have h4c := (hk w2.heap.size (by omega)).trans h4
    have hsc : SlAt Dot.cells W (.slice oa m.more.length cap) m.more := HSL.out.below Dot.cells_len (by decide) hW (Nat.le_refl _)
    have hsl0 : SlAt Dot.cells wc (.slice oa m.more.length cap) m.more := HSL0.out.below Dot.cells_len (by decide) hbc (Nat.le_refl _)
    have HKC : Hid (∀ w', Below wc.heap.size wc w' → w'.cell? ⟨M.g, 3, none⟩ = some (.pointer (some ⟨M.bb, 0, none⟩)) ∧ w'.cell? ⟨w.heap.size, 3, none⟩ = some (.int .i64 m.seq) ∧ w'.cell? ⟨w2.heap.size, 0, none⟩ = some (.int .i64 (m.u 0)) ∧ w'.cell? ⟨w2.heap.size, 1, none⟩ = some (.int .i64 (m.u 1)) ∧ w'.cell? ⟨w2.heap.size, 2, none⟩ = some (.int .i64 (m.u 2)) ∧ w'.cell? ⟨w2.heap.size, 3, none⟩ = some (.int .i64 (m.u 3)) ∧ w'.cell? ⟨w2.heap.size, 4, none⟩ = some (.int .i64 (m.u 4)) ∧ w'.cell? ⟨w2.heap.size, 5, none⟩ = some (.int .i64 (m.u 5)) ∧ w'.cell? ⟨w2.heap.size, 6, none⟩ = some (.int .i64 (m.u 6)) ∧ w'.cell? ⟨w2.heap.size, 7, none⟩ = some (.int .i64 (m.u 7)) ∧ w'.cell? ⟨w2.heap.size, 8, none⟩ = some (.slice oa m.more.length cap)) := fun X hX => by
      obtain ⟨a0, a1, a2, a3⟩ := (hgc.below hX (Nat.le_refl _)).cells
      have k2 := (hX.block w.heap.size (by omega)).trans h2c
      have k4 := (hX.block w2.heap.size (by omega)).trans h4c
      exact ⟨a3, cell_of_row X _ 3 _ _ _ k2, cell_of_row X _ 0 _ _ _ k4, cell_of_row X _ 1 _ _ _ k4, cell_of_row X _ 2 _ _ _ k4, cell_of_row X _ 3 _ _ _ k4, cell_of_row X _ 4 _ _ _ k4, cell_of_row X _ 5 _ _ _ k4, cell_of_row X _ 6 _ _ _ k4, cell_of_row X _ 7 _ _ _ k4, cell_of_row X _ 8 _ _ _ k4⟩
    have HGC := Lib.hid hgc
    have HBC := Lib.hid hbc
    have HSC := Lib.hid hsl0
    have H2C := Lib.hid h2c
    have HSE := Lib.hid (seen_any M.bb M.ms M.mh M.B x.S HFN.out.ok wc.drew (hgc.below (below_drew (Below.refl wc.heap.size wc)) (Nat.le_refl _)).book)
    obtain ⟨ab, hab⟩ : ∃ ab, asksB x.S m = ab := ⟨_, rfl⟩
    have HAB := Lib.hid hab
    clear hW hwx h1 h2 h3 h4 hk hzc hgc hbc h2c h4c hsc hsl0 hab HWW HKP HKS HKZ HNW HSP HROW
    obtain ⟨wd, hwd⟩ : ∃ wd, wd = wc := ⟨_, rfl⟩
    subst hwd
    go_upto_region 3 with fail
    go_cut [46] (fun s46 wx => s46 = .bool ab ∧ Hid (Below wd.heap.size wd wx))
    case first =>
      by_cases hq : m.seq = 0
      · have hqb : (m.seq == 0) = true := by simpa using hq
        have HQ := Lib.hid hq
        clear hq
        go_region_held (fun w' => w'.cell? ⟨M.g, 3, none⟩ = some (.pointer (some ⟨M.bb, 0, none⟩)) ∧ w'.cell? ⟨w.heap.size, 3, none⟩ = some (.int .i64 m.seq) ∧ w'.cell? ⟨w2.heap.size, 0, none⟩ = some (.int .i64 (m.u 0)) ∧ w'.cell? ⟨w2.heap.size, 1, none⟩ = some (.int .i64 (m.u 1)) ∧ w'.cell? ⟨w2.heap.size, 2, none⟩ = some (.int .i64 (m.u 2)) ∧ w'.cell? ⟨w2.heap.size, 3, none⟩ = some (.int .i64 (m.u 3)) ∧ w'.cell? ⟨w2.heap.size, 4, none⟩ = some (.int .i64 (m.u 4)) ∧ w'.cell? ⟨w2.heap.size, 5, none⟩ = some (.int .i64 (m.u 5)) ∧ w'.cell? ⟨w2.heap.size, 6, none⟩ = some (.int .i64 (m.u 6)) ∧ w'.cell? ⟨w2.heap.size, 7, none⟩ = some (.int .i64 (m.u 7)) ∧ w'.cell? ⟨w2.heap.size, 8, none⟩ = some (.slice oa m.more.length cap)) (first | exact HKC.out _ B43.out | exact HKC.out _ B42.out | exact HKC.out _ (below_drew (Below.refl _ _)))
          (first
            | (go_at_call 10; refine HSE.out.mono ?_; rintro e w5 ⟨⟨ra, rn, rc⟩, r, rfl, hcl, hown, hb5⟩; rw [show (qcells (⟨ra, rn, rc⟩, r)).toArray = #[.int .i64 (r.u 0), .int .i64 (r.u 1), .int .i64 (r.u 2), .int .i64 (r.u 3), .int .i64 (r.u 4), .int .i64 (r.u 5), .int .i64 (r.u 6), .int .i64 (r.u 7), .slice ra rn rc] from rfl]; obtain ⟨_, _, hv5⟩ := slAt_slice hown.at; simp only [Hdr.val, Value.slice.injEq] at hv5; obtain ⟨rfl, rfl, rfl⟩ := hv5; have B42 := Lib.hid ((below_drew (Below.refl wd.heap.size wd)).trans hb5); have HLE5 := Lib.hid (HLE.out ra rc r w5 (HSC.out.below Dot.cells_len (by decide) B42.out (Nat.le_refl _)) hown.at (Nat.le_trans (hcl.right HFN.out.ok).2.1 (by decide))); have HCL5 := Lib.hid hcl; clear hcl hown hb5 HSE HLE)
            | (go_at_call 16; refine HLE5.out.mono ?_; rintro e w6 ⟨o6, n6, c6, rfl, hn6, hb6⟩; have B43 := Lib.hid (B42.out.trans (hb6.mono B42.out.size)); have HN6 := Lib.hid hn6; clear hn6 hb6 HLE5))
        all_goals
          go_wp2_with fail
          go_meet
          have hg := HCL5.out.grid HFN.out.ok
          have e1 : decide (0 < n6) = ab := by rw [← HAB.out, HN6.out]; unfold asksB lessD; rw [hg]; simp [HQ.out]
          exact ⟨congrArg Value.bool e1, B43.out⟩
      · have hqb : (m.seq == 0) = false := by simpa using hq
        have hab2 : ab = false := by rw [← HAB.out]; unfold asksB; simp [hq]
        subst hab2
        have k3 : wd.cell? ⟨w.heap.size, 3, none⟩ = some (.int .i64 m.seq) := cell_of_row wd _ 3 _ _ _ H2C.out
        clear hq
        go_quiet (fail)
        go_wp2_with fail
        go_meet
        exact ⟨rfl, below_drewN wd nq⟩
    case rest =>
      obtain ⟨rfl, HBX⟩ := hcut
      have HDS : Hid (∀ d ∈ ds, d.kind = 5 ∧ d.frm = x.self ∧ d.to_ = m.frm ∧ d.seq = 0 ∧ d.node = 0 ∧ (∀ n, d.u n = 0) ∧ d.more = [] ∧ d.ms = []) := fun d hd => by
        have h := HLK.out d hd
        exact ⟨h.kind, h.frm, h.to_, h.seq, h.node, fun n => by rw [h.u]; rfl, h.more, h.ms⟩
      have hbl : w.heap.size + 1 < wd.heap.size := by omega
      have hrx := (HBX.out.block (w.heap.size + 1) hbl).trans HRA.out
      have hgx := HGC.out.below HBX.out (Nat.le_refl _)
      have hmx := HMR.out.below HBX.out (Nat.le_refl _)
      have hbx2 := HBC.out.trans (HBX.out.mono HBC.out.size)
      have h2x := (HBX.out.block w.heap.size (by omega)).trans H2C.out
      have hszx := HBX.out.size
      have HRX := Lib.hid hrx
      have HGX := Lib.hid hgx
      have HMX := Lib.hid hmx
      have HBX2 := Lib.hid hbx2
      have H2X := Lib.hid h2x
      clear hrx hgx hmx hbx2 h2x HRA HGC HMR HBC H2C HBX HKC HSC HSE HLE
      obtain ⟨ov, cv, hvv⟩ := slAt_slice HMX.out.row.at
      subst hvv
      have hdl : ds.length ≤ 768 := by
        have h1 := HPC.out.len
        have h2 := congrArg List.length HPS.out
        rw [List.length_map] at h1 h2
        unfold newerB at h2
        rw [List.length_take] at h2
        have h3 : min (768 : Int).toNat (x.S.holds.filter fun e => !m.set.grid e.dot.node.toNat e.dot.seq.toNat).length ≤ 768 := Nat.min_le_left _ _
        omega
      cases ab with
      | false =>
        have v0 : wc.cell? ⟨w.heap.size + 1, 0, none⟩ = some (.slice ov ds.length cv) := cell_of_row wc _ 0 _ _ _ HRX.out
        have v1 : wc.cell? ⟨w.heap.size + 1, 1, none⟩ = some (.slice none 0 0) := cell_of_row wc _ 1 _ _ _ HRX.out
        have z0 : wc.frozen? ⟨w.heap.size + 1, 0, none⟩ = false := by unfold World.frozen?; rw [HRX.out]; simp
        have z1 : wc.frozen? ⟨w.heap.size + 1, 1, none⟩ = false := by unfold World.frozen?; rw [HRX.out]; simp
        have hk9 : ∀ k, k ≠ w.heap.size + 1 → ((wc.setCell ⟨w.heap.size + 1, 0, none⟩ (.slice ov ds.length cv)).setCell ⟨w.heap.size + 1, 1, none⟩ (.slice none 0 0)).heap[k]? = wc.heap[k]? := fun k hk => (Below.heap_setCell _ ⟨w.heap.size + 1, 1, none⟩ _ k hk).trans (Below.heap_setCell wc ⟨w.heap.size + 1, 0, none⟩ _ k hk)
        have hz9 : ((wc.setCell ⟨w.heap.size + 1, 0, none⟩ (.slice ov ds.length cv)).setCell ⟨w.heap.size + 1, 1, none⟩ (.slice none 0 0)).heap.size = wc.heap.size := by simp [World.setCell]
        have hr9 : ((wc.setCell ⟨w.heap.size + 1, 0, none⟩ (.slice ov ds.length cv)).setCell ⟨w.heap.size + 1, 1, none⟩ (.slice none 0 0)).heap[w.heap.size + 1]? = some (.cells #[(.slice ov ds.length cv), .slice none 0 0] 112) := heap_cellSame _ (w.heap.size + 1) 1 _ _ (.slice none 0 0) (heap_cellSame wc (w.heap.size + 1) 0 _ _ (.slice ov ds.length cv) HRX.out)
        have H1 := Lib.hid (run_loadVarAgg (P := Tryz.prog) (t := 112) (n := 2) (by kernel_rfl) (by kernel_rfl) (load_whole hr9 rfl))
        have H2 := Lib.hid (HMX.out.keep (w' := ((wc.setCell ⟨w.heap.size + 1, 0, none⟩ (.slice ov ds.length cv)).setCell ⟨w.heap.size + 1, 1, none⟩ (.slice none 0 0))) fun g hg _ => hk9 g (by omega))
        have H3 := Lib.hid (HGX.out.turn (W' := ((wc.setCell ⟨w.heap.size + 1, 0, none⟩ (.slice ov ds.length cv)).setCell ⟨w.heap.size + 1, 1, none⟩ (.slice none 0 0))) HRX.out (by decide) (Nat.le_of_eq hz9.symm) (fun k hk hne => hk9 k hne) (fun e => by have := HOW.out _ e; omega) (by omega))
        have H4 : Hid (Below w.heap.size w ((wc.setCell ⟨w.heap.size + 1, 0, none⟩ (.slice ov ds.length cv)).setCell ⟨w.heap.size + 1, 1, none⟩ (.slice none 0 0))) := (HBX2.out.setCell (p := ⟨w.heap.size + 1, 0, none⟩) (by show w.heap.size ≤ w.heap.size + 1; omega) _).setCell (p := ⟨w.heap.size + 1, 1, none⟩) (by show w.heap.size ≤ w.heap.size + 1; omega) _
        have H5 : Hid (Told x m ds []) := ⟨⟨ps, HPS.out, HPC.out⟩, fun d hd => HDS.out d hd, by rw [HAB.out]; exact rfl⟩
        have hz0 : w.heap.size ≤ w3.heap.size := by omega
        clear hk9 hz9 hr9 HRX HMX HGX HBX2
        go_wp2_with fail
        exact bodyPost_ret (v := .agg #[(.slice ov ds.length cv), .slice none 0 0]) (run_results_cell rfl rfl H1.out) rfl ⟨_, ds, [], rfl, by rw [List.append_nil]; exact H2.out.lower hz0, H5.out, H3.out, H4.out⟩
      | true =>
        have HD4 := Lib.hid (HDG.out wc.drew (HGX.out.below (below_drew (Below.refl wc.heap.size wc)) (Nat.le_refl _)))
        have f1 : wc.cell? ⟨w.heap.size, 1, none⟩ = some (.int .i64 m.frm) := cell_of_row wc _ 1 _ _ _ H2X.out
        have f0 : wc.cell? ⟨w.heap.size + 1, 0, none⟩ = some (.slice ov ds.length cv) := cell_of_row wc _ 0 _ _ _ HRX.out
        have HLW := Lib.hid (show w.heap.size + 1 < wc.heap.size by omega)
        have HVB := Lib.hid (fun g hg => HMX.out.row.lt g hg)
        obtain ⟨wf, hwf⟩ : ∃ wf, wf = wc := ⟨_, rfl⟩
        subst hwf
        go_upto_region 4 with fail
        go_cut [] (fun wx => ∃ (o8 : Option Addr) (n8 c8 : Nat) (t : Msg), Hid (wx.heap[w.heap.size + 1]? = some (.cells #[.slice o8 n8 c8, .slice none 0 0] 112)) ∧ Hid (IsDigest x.S x.self m.frm 1 t) ∧ Hid (MRow w3.heap.size wx (.slice o8 n8 c8) (ds ++ [t])) ∧ Hid (GAt wx M x) ∧ Hid (Below w.heap.size w wx))
        case first =>
          go_region_law (first
            | (go_simp; refine HD4.out.mono ?_; rintro e w7 ⟨⟨da, dn, dc⟩, r, rfl, hcl, hown, hb7⟩; simp only [Hdr.val] at hown ⊢
               have HB7 := Lib.hid ((below_drew (Below.refl wf.heap.size wf)).trans hb7)
               have hs7 : wf.heap.size ≤ w7.heap.size := HB7.out.size
               have HCL7 := Lib.hid hcl
               have HOW7 := Lib.hid (digMsg_own (self := x.self) (to_ := m.frm) (seq := 1) (hd := ⟨da, dn, dc⟩) hown)
               have HMX7 := Lib.hid (HMX.out.below HB7.out (Nat.le_refl _))
               have g0 : w7.cell? ⟨w.heap.size + 1, 0, none⟩ = some (.slice ov ds.length cv) := (HB7.out.cell (p := ⟨w.heap.size + 1, 0, none⟩) HLW.out).trans f0
               have g0a : (w7.alloc (.cells #[.int .i64 4, .int .i64 x.self, .int .i64 m.frm, .int .i64 1, .int .i64 0, .int .i64 (r.u 0), .int .i64 (r.u 1), .int .i64 (r.u 2), .int .i64 (r.u 3), .int .i64 (r.u 4), .int .i64 (r.u 5), .int .i64 (r.u 6), .int .i64 (r.u 7), .slice da dn dc, .slice none 0 0, .slice none 0 0] 38)).cell? ⟨w.heap.size + 1, 0, none⟩ = some (.slice ov ds.length cv) := (((Below.refl w7.heap.size w7).alloc (Nat.le_refl _) _).cell (p := ⟨w.heap.size + 1, 0, none⟩) (by have := HLW.out; show w.heap.size + 1 < w7.heap.size; omega)).trans g0
               clear hcl hown hb7 HD4)
            | (refine step_app Msg.cells 16 Msg.cells_len (by decide) Msg.cells_one _ rfl _ _ 52 rfl w3.heap.size 38 _ 176 Tryz.underlying52 infoMsgS rfl (.slice ov ds.length cv) ds rfl (HMX7.out.row.below ((Below.refl w7.heap.size w7).alloc (Nat.le_refl _) _) (Nat.le_refl _)) _ [(digMsg x.self m.frm 1 r ⟨da, dn, dc⟩)] rfl (slAt_new (enc := Msg.cells) w7 (Msg.cells (digMsg x.self m.frm 1 r ⟨da, dn, dc⟩)).toArray 38 1 1 (0, 0) [(digMsg x.self m.frm 1 r ⟨da, dn, dc⟩)] rfl rfl (by decide)) (by simp; omega) (by simp; omega) (by simp; omega) ?_
               intro v8 w8 hown8 hg8 hv8
               have hrd := MRow.round (by omega) HMX.out HB7.out HOW7.out hown8 hg8 hv8
               obtain ⟨o8, c8, hv⟩ := slAt_slice hown8.at
               subst hv
               have HR8 := Lib.hid ((hrd.2.block (w.heap.size + 1) (by omega)).trans HRX.out)
               have g8 : w8.cell? ⟨w.heap.size + 1, 0, none⟩ = some (.slice ov ds.length cv) := cell_of_row w8 _ 0 _ _ _ HR8.out
               have y8 : w8.frozen? ⟨w.heap.size + 1, 0, none⟩ = false := (by unfold World.frozen?; rw [HR8.out]; simp)
               have hm8 := hrd.1
               rw [show (ds ++ [(digMsg x.self m.frm 1 r ⟨da, dn, dc⟩)]).length = ds.length + 1 from by simp] at hm8
               have HM8 := Lib.hid hm8
               have HB8 := Lib.hid (HBX2.out.trans (hrd.2.mono (by omega)))
               have HG8 : Hid (GAt w8 M x) := HG0.out.below (HBX2.out.trans (hrd.2.mono (by omega))) (Nat.le_refl _)
               clear hrd hown8 hg8 hv8 hm8))
          all_goals
            go_wp2_with fail
            go_meet
            exact ⟨o8, ds.length + 1, c8, (digMsg x.self m.frm 1 r ⟨da, dn, dc⟩), heap_cellSame w8 (w.heap.size + 1) 0 _ _ (.slice o8 (ds.length + 1) c8) HR8.out, digMsg_is HCL7.out, HM8.out.keep (fun g hg _ => Below.heap_setCell w8 ⟨w.heap.size + 1, 0, none⟩ _ g (by show g ≠ w.heap.size + 1; omega)), HG8.out.turn HR8.out (by decide) (by simp [World.setCell]) (fun k _ hne => Below.heap_setCell w8 ⟨w.heap.size + 1, 0, none⟩ _ k hne) (fun e => by have := HOW.out _ e; omega) (by omega), HB8.out.setCell (p := ⟨w.heap.size + 1, 0, none⟩) (by show w.heap.size ≤ w.heap.size + 1; omega) _⟩
        case rest =>
          obtain ⟨o8, n8, c8, t, HRX, HDT, HMX, HGX, HBX2⟩ := hcut
          obtain ⟨we, hwe⟩ : ∃ we, we = wc := ⟨_, rfl⟩
          subst hwe
          have v0 : we.cell? ⟨w.heap.size + 1, 0, none⟩ = some (.slice o8 n8 c8) := cell_of_row we _ 0 _ _ _ HRX.out
          have v1 : we.cell? ⟨w.heap.size + 1, 1, none⟩ = some (.slice none 0 0) := cell_of_row we _ 1 _ _ _ HRX.out
          have z0 : we.frozen? ⟨w.heap.size + 1, 0, none⟩ = false := by unfold World.frozen?; rw [HRX.out]; simp
          have z1 : we.frozen? ⟨w.heap.size + 1, 1, none⟩ = false := by unfold World.frozen?; rw [HRX.out]; simp
          have hk9 : ∀ k, k ≠ w.heap.size + 1 → ((we.setCell ⟨w.heap.size + 1, 0, none⟩ (.slice o8 n8 c8)).setCell ⟨w.heap.size + 1, 1, none⟩ (.slice none 0 0)).heap[k]? = we.heap[k]? := fun k hk => (Below.heap_setCell _ ⟨w.heap.size + 1, 1, none⟩ _ k hk).trans (Below.heap_setCell we ⟨w.heap.size + 1, 0, none⟩ _ k hk)
          have hz9 : ((we.setCell ⟨w.heap.size + 1, 0, none⟩ (.slice o8 n8 c8)).setCell ⟨w.heap.size + 1, 1, none⟩ (.slice none 0 0)).heap.size = we.heap.size := by simp [World.setCell]
          have hr9 : ((we.setCell ⟨w.heap.size + 1, 0, none⟩ (.slice o8 n8 c8)).setCell ⟨w.heap.size + 1, 1, none⟩ (.slice none 0 0)).heap[w.heap.size + 1]? = some (.cells #[(.slice o8 n8 c8), .slice none 0 0] 112) := heap_cellSame _ (w.heap.size + 1) 1 _ _ (.slice none 0 0) (heap_cellSame we (w.heap.size + 1) 0 _ _ (.slice o8 n8 c8) HRX.out)
          have H1 := Lib.hid (run_loadVarAgg (P := Tryz.prog) (t := 112) (n := 2) (by kernel_rfl) (by kernel_rfl) (load_whole hr9 rfl))
          have H2 := Lib.hid (HMX.out.keep (w' := ((we.setCell ⟨w.heap.size + 1, 0, none⟩ (.slice o8 n8 c8)).setCell ⟨w.heap.size + 1, 1, none⟩ (.slice none 0 0))) fun g hg _ => hk9 g (by omega))
          have H3 := Lib.hid (HGX.out.turn (W' := ((we.setCell ⟨w.heap.size + 1, 0, none⟩ (.slice o8 n8 c8)).setCell ⟨w.heap.size + 1, 1, none⟩ (.slice none 0 0))) HRX.out (by decide) (Nat.le_of_eq hz9.symm) (fun k hk hne => hk9 k hne) (fun e => by have := HOW.out _ e; omega) (by omega))
          have H4 : Hid (Below w.heap.size w ((we.setCell ⟨w.heap.size + 1, 0, none⟩ (.slice o8 n8 c8)).setCell ⟨w.heap.size + 1, 1, none⟩ (.slice none 0 0))) := (HBX2.out.setCell (p := ⟨w.heap.size + 1, 0, none⟩) (by show w.heap.size ≤ w.heap.size + 1; omega) _).setCell (p := ⟨w.heap.size + 1, 1, none⟩) (by show w.heap.size ≤ w.heap.size + 1; omega) _
          have H5 : Hid (Told x m ds [t]) := ⟨⟨ps, HPS.out, HPC.out⟩, fun d hd => HDS.out d hd, by rw [HAB.out]; exact ⟨t, rfl, HDT.out⟩⟩
          have hz0 : w.heap.size ≤ w3.heap.size := by omega
          clear hk9 hz9 hr9 HRX HMX HGX HBX2
          go_wp2_with fail
          exact bodyPost_ret (v := .agg #[(.slice o8 n8 c8), .slice none 0 0]) (run_results_cell rfl rfl H1.out) rfl ⟨_, ds, [t], rfl, H2.out.lower hz0, H5.out, H3.out, H4.out⟩
end Go.Proofs.YtenkfnhcdfmkaaaGreat
