/-
  Messages in memory of one's own, in a row.
  chunk.fit and chunk.Fit: as many events as one frame holds.
-/
import Derived.Test.YtenkfnhcdfmkaaaGreatWith
import Derived.Test.YtenkfnhcdfmkaaaGreatMFitP
import Derived.Test.YtenkfnhcdfmkaaaGreatMSub
namespace Go.Proofs.YtenkfnhcdfmkaaaGreat
open Go.RowKit Go.Lib
set_option linter.unusedVariables false
def Msg.has (m : Msg) (g : Nat) : Prop := m.hm.val.ownBlock = some g ∨ m.he.val.ownBlock = some g ∨ m.hs.val.ownBlock = some g ∨ ∃ p ∈ m.evs, p.1.val.ownBlock = some g
structure MOwn (B : Nat) (w : World) (m : Msg) : Prop where
 more : Owns Dot.cells 2 B 40 w m.hm.val m.more
 evs : Acc B 44 40 w m.he.val m.evs
 ms : Owns Mb.cells 3 B 143 w m.hs.val m.ms
theorem MOwn.lt {B : Nat} {w : World} {m : Msg} (h : MOwn B w m) {g : Nat} (hg : m.has g) : B ≤ g ∧ g < w.heap.size := by
 rcases hg with hg | hg | hg | ⟨p, hp, hg⟩
 ·exact h.more.lt g hg
 ·exact h.evs.row.lt g hg
 ·exact h.ms.lt g hg
 ·exact (h.evs.rem p hp).1.lt g hg
theorem MOwn.keep {B : Nat} {w w' : World} {m : Msg} (h : MOwn B w m) (hk : ∀ g, m.has g → w'.heap[g]? = w.heap[g]?) : MOwn B w' m :=
 ⟨h.more.keep fun g hg => hk g (.inl hg), ⟨h.evs.row.keep fun g hg => hk g (.inr (.inl hg)), fun q hq => ⟨(h.evs.rem q hq).1.keep fun g hg => hk g (.inr (.inr (.inr ⟨q, hq, hg⟩))), (h.evs.rem q hq).2⟩⟩, h.ms.keep fun g hg => hk g (.inr (.inr (.inl hg)))⟩
theorem MOwn.lower {B B' : Nat} {w : World} {m : Msg} (h : MOwn B w m) (hb : B' ≤ B) : MOwn B' w m := ⟨h.more.lower hb, h.evs.lower hb, h.ms.lower hb⟩
theorem MOwn.below {B C : Nat} {w w' : World} {m : Msg} (h : MOwn B w m) (hb : Below C w w') (hC : w.heap.size ≤ C) : MOwn B w' m := h.keep fun g hg => hb.block g (Nat.lt_of_lt_of_le (h.lt hg).2 hC)
theorem MOwn.at {B : Nat} {w : World} {m : Msg} (h : MOwn B w m) : MsgIn w m := ⟨h.more.at, h.evs.evs, h.ms.at⟩
structure MRow (B : Nat) (w : World) (v : Value) (l : List Msg) : Prop where
 row : Owns Msg.cells 16 B 38 w v l
 each : ∀ m ∈ l, MOwn B w m ∧ ∀ g, m.has g → v.ownBlock ≠ some g
theorem MRow.nil (B : Nat) (w : World) : MRow B w (.slice none 0 0) [] := ⟨Owns.nil _ _ _ _ _, fun m hm => by cases hm⟩
theorem MRow.lower {B B' : Nat} {w : World} {v : Value} {l : List Msg} (h : MRow B w v l) (hb : B' ≤ B) : MRow B' w v l := ⟨h.row.lower hb, fun m hm => ⟨(h.each m hm).1.lower hb, (h.each m hm).2⟩⟩
theorem MRow.keep {B : Nat} {w w' : World} {v : Value} {l : List Msg} (h : MRow B w v l) (hk : ∀ g, B ≤ g → g < w.heap.size → w'.heap[g]? = w.heap[g]?) : MRow B w' v l :=
 ⟨h.row.keep fun g hg => hk g (h.row.lt g hg).1 (h.row.lt g hg).2, fun m hm => ⟨(h.each m hm).1.keep fun g hg => hk g ((h.each m hm).1.lt hg).1 ((h.each m hm).1.lt hg).2, (h.each m hm).2⟩⟩
theorem MRow.below {B C : Nat} {w w' : World} {v : Value} {l : List Msg} (h : MRow B w v l) (hb : Below C w w') (hC : w.heap.size ≤ C) : MRow B w' v l := h.keep fun g _ hg => hb.block g (Nat.lt_of_lt_of_le hg hC)
theorem MRow.push {B : Nat} {W w' : World} {v v' : Value} {l : List Msg} {m : Msg} (h : MRow B W v l) (hm : MOwn B W m) (hne : ∀ g, m.has g → v.ownBlock ≠ some g)
  (ho : Owns Msg.cells 16 B 38 w' v' (l ++ [m])) (hg : W.grownBy w' v.ownBlock) (hv : v'.ownBlock = v.ownBlock ∨ ∀ g, v'.ownBlock = some g → W.heap.size ≤ g) : MRow B w' v' (l ++ [m]) := by
 have hall : ∀ x ∈ l ++ [m], MOwn B W x ∧ ∀ g, x.has g → v.ownBlock ≠ some g := fun x hx => by
  rcases List.mem_append.1 hx with hx | hx
  ·exact h.each x hx
  ·obtain rfl : x = m := by simpa using hx
   exact ⟨hm, hne⟩
 refine ⟨ho, fun x hx => ?_⟩
 obtain ⟨h1, h2⟩ := hall x hx
 refine ⟨h1.keep fun g hxg => hg.block g (h1.lt hxg).2 fun e => h2 g hxg e.symm, fun g hxg => ?_⟩
 rcases hv with hv | hv
 ·rw [hv]; exact h2 g hxg
 ·intro e
  have := hv g e
  have := (h1.lt hxg).2
  omega
theorem MRow.round {B : Nat} {wr w7 w' : World} {lit : Go.Obj} {v v' : Value} {l : List Msg} {m : Msg} (hB : B ≤ wr.heap.size) (h : MRow B wr v l) (hb : Below wr.heap.size wr w7) (hm : MOwn wr.heap.size w7 m)
  (ho : Owns Msg.cells 16 B 38 w' v' (l ++ [m])) (hg : (w7.alloc lit).grownBy w' v.ownBlock) (hv : v'.ownBlock = v.ownBlock ∨ ∀ g, v'.ownBlock = some g → (w7.alloc lit).heap.size ≤ g) : MRow B w' v' (l ++ [m]) ∧ Below B wr w' := by
 have h1 : Below w7.heap.size w7 (w7.alloc lit) := (Below.refl w7.heap.size w7).alloc (Nat.le_refl _) lit
 have h2 : Below wr.heap.size wr (w7.alloc lit) := hb.trans (h1.mono hb.size)
 refine ⟨(h.below h2 (Nat.le_refl _)).push ((hm.lower hB).below h1 (Nat.le_refl _)) (fun g hg e => ?_) ho hg hv, (h2.mono hB).grown hg (Nat.le_trans hB h2.size) fun k hk => (h.row.lt k hk).1⟩
 have h3 := (hm.lt hg).1
 have h4 := (h.row.lt g e).2
 omega
theorem MRow.get {B : Nat} {w : World} {v : Value} {l : List Msg} (h : MRow B w v l) {m : Msg} (hm : m ∈ l) : MsgIn w m := (h.each m hm).1.at
theorem msg_cells {w : World} {b : Nat} {t : TypeId} {a0 a1 a2 a3 a4 a5 a6 a7 a8 a9 a10 a11 a12 a13 a14 a15 : Value} (h : w.heap[b]? = some (.cells #[a0, a1, a2, a3, a4, a5, a6, a7, a8, a9, a10, a11, a12, a13, a14, a15] t)) : w.cell? ⟨b, 0, none⟩ = some a0 ∧ w.cell? ⟨b, 1, none⟩ = some a1 ∧ w.cell? ⟨b, 2, none⟩ = some a2 ∧ w.cell? ⟨b, 3, none⟩ = some a3 ∧ w.cell? ⟨b, 4, none⟩ = some a4 ∧ w.cell? ⟨b, 5, none⟩ = some a5 ∧ w.cell? ⟨b, 6, none⟩ = some a6 ∧ w.cell? ⟨b, 7, none⟩ = some a7 ∧ w.cell? ⟨b, 8, none⟩ = some a8 ∧ w.cell? ⟨b, 9, none⟩ = some a9 ∧ w.cell? ⟨b, 10, none⟩ = some a10 ∧ w.cell? ⟨b, 11, none⟩ = some a11 ∧ w.cell? ⟨b, 12, none⟩ = some a12 ∧ w.cell? ⟨b, 13, none⟩ = some a13 ∧ w.cell? ⟨b, 14, none⟩ = some a14 ∧ w.cell? ⟨b, 15, none⟩ = some a15 :=
 ⟨cell_of_row w b 0 _ _ _ h, cell_of_row w b 1 _ _ _ h, cell_of_row w b 2 _ _ _ h, cell_of_row w b 3 _ _ _ h, cell_of_row w b 4 _ _ _ h, cell_of_row w b 5 _ _ _ h, cell_of_row w b 6 _ _ _ h, cell_of_row w b 7 _ _ _ h, cell_of_row w b 8 _ _ _ h, cell_of_row w b 9 _ _ _ h, cell_of_row w b 10 _ _ _ h, cell_of_row w b 11 _ _ _ h, cell_of_row w b 12 _ _ _ h, cell_of_row w b 13 _ _ _ h, cell_of_row w b 14 _ _ _ h, cell_of_row w b 15 _ _ _ h⟩
theorem infoMsgS : (Tryz.prog.info? 38).map (fun i => (i.zero, i.size, i.bytes)) = some (some (.agg #[.int .i64 0, .int .i64 0, .int .i64 0, .int .i64 0, .int .i64 0, .int .i64 0, .int .i64 0, .int .i64 0, .int .i64 0, .int .i64 0, .int .i64 0, .int .i64 0, .int .i64 0, .slice none 0 0, .slice none 0 0, .slice none 0 0]), 16, 176) := by kernel_rfl
theorem Msg.cells_one (m : Msg) : ∀ v ∈ m.cells, v.oneCell' = true := by
 intro v hv
 simp only [Msg.cells, List.mem_cons, List.not_mem_nil, or_false] at hv
 rcases hv with rfl | rfl | rfl | rfl | rfl | rfl | rfl | rfl | rfl | rfl | rfl | rfl | rfl | rfl | rfl | rfl <;> rfl
theorem EvsAt.dropAt {w : World} {b off cap : Nat} {l : List PEv} (h : EvsAt w (.slice (some ⟨b, off, none⟩) l.length cap) l) (k : Nat) (hk : k ≤ l.length) :
  (k = cap → EvsAt w (.slice (some ⟨b, off, none⟩) 0 0) (l.drop k)) ∧ (¬ k = cap → EvsAt w (.slice (some ⟨b, off + k * 14, none⟩) (l.length - k) (cap - k)) (l.drop k)) := by
 have h1 := EvsAt.sub h k l.length hk (Nat.le_refl _)
 rw [List.take_length] at h1
 have hc : l.length ≤ cap := by
  obtain ⟨_, _, e2, hc2⟩ := h.1.slice_of
  injection e2 with e3 e4 e5
  omega
 refine ⟨fun e => ?_, fun e => ?_⟩
 ·subst e
  have e2 : sliced (some ⟨b, off, none⟩) k l.length k 14 = .slice (some ⟨b, off, none⟩) 0 0 := by
   unfold sliced
   simp
   omega
  rwa [e2] at h1
 ·have e2 : sliced (some ⟨b, off, none⟩) k l.length cap 14 = .slice (some ⟨b, off + k * 14, none⟩) (l.length - k) (cap - k) := by
   unfold sliced
   simp [Addr.add]
   rw [if_neg (Ne.symm e)]
   by_cases h0 : k * 14 = 0
   ·rw [if_pos h0, h0]; rfl
   ·rw [if_neg h0]
  rwa [e2] at h1
theorem Msg.part {m : Msg} {qs : List PEv} {x z y : Hdr} (hr : m.right) (h5 : m.kind = 5) (h : ∀ p ∈ qs, RightEv p.2) (hl : qs.length ≤ 768) : (⟨m.kind, m.frm, m.to_, m.seq, m.node, m.u, m.more, qs, m.ms, x, z, y⟩ : Msg).right := by
 obtain ⟨a, b, c, d, e, f, g, i, j⟩ := hr
 refine ⟨a, b, c, d, e, f, g, i, ?_⟩
 unfold Msg.evsOk at j ⊢
 rw [if_pos h5] at j
 show if m.kind = 5 then _ else _
 rw [if_pos h5]
 exact ⟨h, hl⟩
theorem Msg.right.five {m : Msg} (hr : m.right) (h5 : m.kind = 5) : (∀ p ∈ m.evs, RightEv p.2) ∧ m.evs.length ≤ 768 := by
 have j := hr.evs
 unfold Msg.evsOk at j
 rwa [if_pos h5] at j
structure Msg.like (x m : Msg) : Prop where
 kind : x.kind = m.kind
 frm : x.frm = m.frm
 to_ : x.to_ = m.to_
 seq : x.seq = m.seq
 node : x.node = m.node
 u : x.u = m.u
 more : x.more = m.more
 ms : x.ms = m.ms
end Go.Proofs.YtenkfnhcdfmkaaaGreat
namespace Go.Proofs.YtenkfnhcdfmkaaaGreat
open Go.RowKit Go.Lib Go.Shelf
set_option linter.unusedVariables false
set_option linter.unusedSimpArgs false
set_option maxRecDepth 100000 in
set_option maxHeartbeats 2000000 in
theorem fit_any (m : Msg) (hs : m.small) (hr : m.right) (h5 : m.kind = 5) (h0 : m.ms = []) (mtu : Nat) (hm : 512 ≤ mtu ∧ mtu ≤ 4096) (w : World) (h : MsgIn w m) :
  Calls Tryz.prog 117 #[.agg #[.int .i64 m.kind, .int .i64 m.frm, .int .i64 m.to_, .int .i64 m.seq, .int .i64 m.node, .int .i64 (m.u 0), .int .i64 (m.u 1), .int .i64 (m.u 2), .int .i64 (m.u 3), .int .i64 (m.u 4), .int .i64 (m.u 5), .int .i64 (m.u 6), .int .i64 (m.u 7), m.hm.val, m.he.val, m.hs.val], .int .i64 mtu] w fun e w' => ∃ r : Nat, e = .returned (.int .i64 r) ∧ Fits mtu m.evs r ∧ Below w.heap.size w w' := by
 have eg : ∀ args w, (callFunc 130 args).run Tryz.prog w = .ok (.enter 130 args) w := enters_of Tryz.func130 (by kernel_rfl) rfl
 obtain ⟨r0, r1, hb, hsz⟩ := alloc2 w (.cells #[.int .i64 m.kind, .int .i64 m.frm, .int .i64 m.to_, .int .i64 m.seq, .int .i64 m.node, .int .i64 (m.u 0), .int .i64 (m.u 1), .int .i64 (m.u 2), .int .i64 (m.u 3), .int .i64 (m.u 4), .int .i64 (m.u 5), .int .i64 (m.u 6), .int .i64 (m.u 7), m.hm.val, m.he.val, m.hs.val] 38) (.cells #[.int .i64 mtu] 3)
 obtain ⟨oe, ce, hev⟩ := slAt_slice h.evs.1
 obtain ⟨w2, hw2⟩ : ∃ w2, (w.alloc (.cells #[.int .i64 m.kind, .int .i64 m.frm, .int .i64 m.to_, .int .i64 m.seq, .int .i64 m.node, .int .i64 (m.u 0), .int .i64 (m.u 1), .int .i64 (m.u 2), .int .i64 (m.u 3), .int .i64 (m.u 4), .int .i64 (m.u 5), .int .i64 (m.u 6), .int .i64 (m.u 7), m.hm.val, m.he.val, m.hs.val] 38)).alloc (.cells #[.int .i64 mtu] 3) = w2 := ⟨_, rfl⟩
 rw [hw2] at r0 r1 hb hsz
 have hn : w2.cell? ⟨w.heap.size + 1, 0, none⟩ = some (.int .i64 mtu) := cell_of_row w2 _ 0 _ _ _ r1
 have c14 : w2.cell? ⟨w.heap.size, 7 + 7, none⟩ = some m.he.val := cell_of_row w2 _ 14 _ _ _ r0
 have hse := search_any 130 #[.pointer (some ⟨w.heap.size, 0, none⟩), .pointer (some ⟨w.heap.size + 1, 0, none⟩)] eg (min m.evs.length (mtu / 5)) (by have := hs.evs; omega) (fun k => decide (mtu < frameLen m.evs (k + 1))) w2 (fun k hk W hW => fitC_any m hs hr h5 h0 mtu hm.2 w.heap.size (w.heap.size + 1) k (by omega) W ((hW.block _ (by omega)).trans r0) ((hW.cell (p := ⟨w.heap.size + 1, 0, none⟩) (by show w.heap.size + 1 < w2.heap.size; omega)).trans hn) ((h.below hb (Nat.le_refl _)).below hW (Nat.le_refl _)))
 rw [hev] at c14 hw2 ⊢
 have hmn : ((min m.evs.length (mtu / 5) : Nat) : Int) = min (m.evs.length : Int) ((mtu : Int) / 5) := by omega
 rw [hmn] at hse
 have HSE := Lib.hid hse
 have HW2 := Lib.hid hw2
 have HB := Lib.hid hb
 have HR := Lib.hid hr
 clear hse hw2 hb hs hr h5 h0 h r0 r1 hsz
 obtain ⟨hm1, hm2⟩ := hm
 have hq : (mtu : Int).tdiv 5 = ((mtu / 5 : Nat) : Int) := by
  rw [Int.tdiv_eq_ediv_of_nonneg (by omega)]; omega
 go_enter Tryz.func117, Tryz.ntmps117
 go_upto_region 1 with fail
 rw [HW2.out]
 clear hev
 go_wp2_with fail
 refine HSE.out.mono ?_
 rintro e w3 ⟨r, hr, rfl, h1, h2, hb3⟩
 have HF := Lib.hid (Fits.of_search hr (fun h => of_decide_eq_true (h1 h)) (fun h => of_decide_eq_false (h2 h)))
 have HB3 := Lib.hid (HB.out.trans (hb3.mono HB.out.size))
 clear HSE h1 h2 hb3 hr
 go_wp2_with fail
 go_ret
 exact ⟨r, rfl, HF.out, HB3.out⟩
set_option maxRecDepth 100000 in
set_option maxHeartbeats 2000000 in
theorem fitTop_any (m : Msg) (hs : m.small) (hr : m.right) (h5 : m.kind = 5) (h0 : m.ms = []) (mtu : Nat) (hm : 512 ≤ mtu ∧ mtu ≤ 4096) (w : World) (h : MsgIn w m) :
  Calls Tryz.prog 115 #[.agg #[.int .i64 m.kind, .int .i64 m.frm, .int .i64 m.to_, .int .i64 m.seq, .int .i64 m.node, .int .i64 (m.u 0), .int .i64 (m.u 1), .int .i64 (m.u 2), .int .i64 (m.u 3), .int .i64 (m.u 4), .int .i64 (m.u 5), .int .i64 (m.u 6), .int .i64 (m.u 7), m.hm.val, m.he.val, m.hs.val], .int .i64 mtu] w fun e w' => ∃ r : Nat, e = .returned (.tuple #[.int .i64 r, .int .i64 0]) ∧ Fits mtu m.evs r ∧ Below w.heap.size w w' := by
 obtain ⟨w1, hw1⟩ : ∃ w1, w.alloc (.cells #[.int .i64 m.kind, .int .i64 m.frm, .int .i64 m.to_, .int .i64 m.seq, .int .i64 m.node, .int .i64 (m.u 0), .int .i64 (m.u 1), .int .i64 (m.u 2), .int .i64 (m.u 3), .int .i64 (m.u 4), .int .i64 (m.u 5), .int .i64 (m.u 6), .int .i64 (m.u 7), m.hm.val, m.he.val, m.hs.val] 38) = w1 := ⟨_, rfl⟩
 have hb : Below w.heap.size w w1 := by rw [← hw1]; exact (Below.refl _ _).alloc (Nat.le_refl _) _
 have r0 : w1.heap[w.heap.size]? = some (.cells #[.int .i64 m.kind, .int .i64 m.frm, .int .i64 m.to_, .int .i64 m.seq, .int .i64 m.node, .int .i64 (m.u 0), .int .i64 (m.u 1), .int .i64 (m.u 2), .int .i64 (m.u 3), .int .i64 (m.u 4), .int .i64 (m.u 5), .int .i64 (m.u 6), .int .i64 (m.u 7), m.hm.val, m.he.val, m.hs.val] 38) := by rw [← hw1]; exact heap_alloc_new w _
 obtain ⟨c0, c1, c2, c3, c4, c5, c6, c7, c8, c9, c10, c11, c12, c13, c14, c15⟩ := msg_cells r0
 have hkb : (m.kind != 5) = false := by simp [h5]
 have HR1 := Lib.hid (fun W (hW : Below w1.heap.size w1 W) => msgRight_any m W ((h.below hb (Nat.le_refl _)).below hW (Nat.le_refl _)) hs)
 have HF := Lib.hid (fun W (hW : Below w1.heap.size w1 W) => fit_any m hs hr h5 h0 mtu hm W ((h.below hb (Nat.le_refl _)).below hW (Nat.le_refl _)))
 have HRB := Lib.hid (Msg.rightB_true hr)
 have hld := load_whole r0 rfl
 have HLD := Lib.hid hld
 have hwi : within mtu 512 4096 = mtu := by unfold within; rw [if_neg (by omega), if_neg (by omega)]
 have HWI := Lib.hid (hwi ▸ within_any mtu 512 4096 w1)
 have HR0 := Lib.hid r0
 have HW1 := Lib.hid hw1
 have HB := Lib.hid hb
 clear hs hr h0 h hb r0 hw1 h5 hld hwi
 obtain ⟨hm1, hm2⟩ := hm
 go_enter Tryz.func115, Tryz.ntmps115
 go_upto_region 1 with fail
 rw [HW1.out]
 go_wp2_with fail
 refine HWI.out.mono ?_
 rintro e w2 ⟨rfl, rfl⟩
 go_wp2_with fail
 refine (HR1.out _ (Below.refl _ _)).mono ?_
 rintro e w3 ⟨rfl, hb3⟩
 rw [HRB.out]
 have HLD3 := Lib.hid (load_whole ((hb3.block w.heap.size (by have := (Array.getElem?_eq_some_iff.1 HR0.out).1; exact this)).trans HR0.out) rfl)
 have HF3 := Lib.hid (HF.out w3 hb3)
 have HB3 := Lib.hid (HB.out.trans (hb3.mono HB.out.size))
 clear hb3 HF HR1 HWI HLD HW1
 go_wp2_with (refine wpList_loadAgg _ rfl 38 _ rfl 16 (by kernel_rfl) (by kernel_rfl) ⟨w.heap.size, 0, none⟩ rfl _ HLD3.out ?_)
 refine HF3.out.mono ?_
 rintro e w4 ⟨r, rfl, hf, hb4⟩
 have HFF := Lib.hid hf
 have HB4 := Lib.hid (HB3.out.trans (hb4.mono HB3.out.size))
 clear hb4 hf HF3 HLD3
 go_wp2_with fail
 go_ret2
 exact ⟨r, rfl, HFF.out, HB4.out⟩
end Go.Proofs.YtenkfnhcdfmkaaaGreat
