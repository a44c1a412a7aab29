/-
  Slices of slices: what l[lo:hi] reads as.
  How many events one frame holds: chunk.fit, chunk.Fit.
-/
import Derived.Test.YtenkfnhcdfmkaaaGreatMStep
import Derived.Test.YtenkfnhcdfmkaaaGreatMFitP
import Derived.Test.YtenkfnhcdfmkaaaGreatWith
import Derived.Laws.EntriesVeiled
namespace Go.Proofs.YtenkfnhcdfmkaaaGreat
open Go.RowKit
set_option linter.unusedVariables false
theorem EvsAt.sub {w : World} {oa : Option Addr} {n cap : Nat} {l : List PEv} (h : EvsAt w (.slice oa n cap) l) (lo hi : Nat) (h1 : lo ≤ hi) (h2 : hi ≤ l.length) : EvsAt w (sliced oa lo hi cap 14) ((l.take hi).drop lo) :=
 ⟨h.1.sub pcells_len (by decide) lo hi h1 h2, fun p hp => h.2 p (List.mem_of_mem_take (List.mem_of_mem_drop hp))⟩
end Go.Proofs.YtenkfnhcdfmkaaaGreat
namespace Go.Proofs.YtenkfnhcdfmkaaaGreat
open Go.RowKit Go.Lib Go.Shelf
set_option linter.unusedVariables false
set_option linter.unusedSimpArgs false
theorem EvsAt.takeAt {w : World} {b off n cap : Nat} {l : List PEv} (h : EvsAt w (.slice (some ⟨b, off, none⟩) n cap) l) (k : Nat) (hk : k ≤ l.length) : EvsAt w (.slice (some ⟨b, off, none⟩) k cap) (l.take k) := by
  have h1 := EvsAt.sub h 0 k (Nat.zero_le _) hk
  rw [List.drop_zero] at h1
  have e : sliced (some ⟨b, off, none⟩) 0 k cap 14 = .slice (some ⟨b, off, none⟩) k cap := by
    unfold sliced
    simp [Addr.add]
  rwa [e] at h1
theorem long_eq (mtu n : Nat) (er : Int) (B : Nat) (h1 : B ≤ 4096 → er = 0 ∧ n = flen B) (h2 : 4096 < B → er = 6) (hm : mtu ≤ 4096) : (if er = 0 then decide (mtu < n) else true) = decide (mtu < flen B) := by
  by_cases h : B ≤ 4096
  · obtain ⟨rfl, rfl⟩ := h1 h
    rw [if_pos rfl]
  · have h3 := h2 (by omega)
    rw [if_neg (by omega)]
    have : mtu < flen B := by unfold flen; omega
    exact (decide_eq_true this).symm
theorem fit_right {m : Msg} {qs : List PEv} {k : Nat} {x z y : Hdr} (hr : m.right) (h5 : m.kind = 5) (h : qs.map (·.2) = (m.evs.take k).map (·.2)) : (⟨m.kind, m.frm, m.to_, m.seq, m.node, m.u, m.more, qs, m.ms, x, z, y⟩ : Msg).right := by
  obtain ⟨a, b, c, d, e, f, g, i, j⟩ := hr
  refine ⟨a, b, c, d, e, f, g, i, ?_⟩
  unfold Msg.evsOk at j ⊢
  rw [if_pos h5] at j
  show if m.kind = 5 then _ else _
  rw [if_pos h5]
  refine ⟨forall_map h fun p hp => j.1 p (List.mem_of_mem_take hp), ?_⟩
  show qs.length ≤ 768
  rw [map_len h, List.length_take]
  omega
theorem fit_size {m : Msg} {qs : List PEv} {k B : Nat} {x z y : Hdr} {w2 : World} (hs : m.small) (hr : m.right) (h5 : m.kind = 5) (h0 : m.ms = []) (hqs : qs.map (·.2) = (m.evs.take (k + 1)).map (·.2)) (hox : Owns Dot.cells 2 B 40 w2 x.val m.more) (hoz : Acc B 44 40 w2 z.val qs) (hoy : Owns Mb.cells 3 B 143 w2 y.val m.ms) (hk : k + 1 ≤ m.evs.length) :
    Calls Tryz.prog 131 #[.agg #[.int .i64 m.kind, .int .i64 m.frm, .int .i64 m.to_, .int .i64 m.seq, .int .i64 m.node, .int .i64 (m.u 0), .int .i64 (m.u 1), .int .i64 (m.u 2), .int .i64 (m.u 3), .int .i64 (m.u 4), .int .i64 (m.u 5), .int .i64 (m.u 6), .int .i64 (m.u 7), x.val, z.val, y.val]] w2 fun e w' => ∃ (n : Nat) (er : Int), e = .returned (.tuple #[.int .i64 n, .int .i64 er]) ∧ (bodyLen (m.evs.take (k + 1)) ≤ 4096 → er = 0 ∧ n = flen (bodyLen (m.evs.take (k + 1)))) ∧ (4096 < bodyLen (m.evs.take (k + 1)) → er = 6) ∧ Below w2.heap.size w2 w' := by
  have h := msgSize_any ⟨m.kind, m.frm, m.to_, m.seq, m.node, m.u, m.more, qs, m.ms, x, z, y⟩ ⟨hs.more, hs.ms, by show qs.length ≤ 3000; rw [map_len hqs, List.length_take]; have := hs.evs; omega, forall_map (P := fun e => e.rem.length ≤ 3000) hqs fun p hp => hs.rems p (List.mem_of_mem_take hp)⟩ (fit_right hr h5 hqs) h5 h0 w2 ⟨hox.at, hoz.evs, hoy.at⟩
  have e : bodyLen qs = bodyLen (m.evs.take (k + 1)) := bodyLen_map hqs
  rw [← e]
  exact h
set_option maxRecDepth 100000 in
set_option maxHeartbeats 2000000 in
theorem fitC_any (m : Msg) (hs : m.small) (hr : m.right) (h5 : m.kind = 5) (h0 : m.ms = []) (mtu : Nat) (hmtu : mtu ≤ 4096) (bm bn k : Nat) (hk : k < m.evs.length) (w : World)
    (hbm : w.heap[bm]? = some (.cells #[.int .i64 m.kind, .int .i64 m.frm, .int .i64 m.to_, .int .i64 m.seq, .int .i64 m.node, .int .i64 (m.u 0), .int .i64 (m.u 1), .int .i64 (m.u 2), .int .i64 (m.u 3), .int .i64 (m.u 4), .int .i64 (m.u 5), .int .i64 (m.u 6), .int .i64 (m.u 7), m.hm.val, m.he.val, m.hs.val] 38))
    (hbn : w.cell? ⟨bn, 0, none⟩ = some (.int .i64 mtu)) (h : MsgIn w m) :
    Calls Tryz.prog 130 #[.int .i64 k, .pointer (some ⟨bm, 0, none⟩), .pointer (some ⟨bn, 0, none⟩)] w fun e w' => e = .returned (.bool (decide (mtu < frameLen m.evs (k + 1)))) ∧ Below w.heap.size w w' := by
  have hp : Tryz.prog.follows .mixedOrders = true := by kernel_rfl
  have hp2 : Tryz.prog.follows .lateStores = true := by kernel_rfl
  obtain ⟨oe, ce, hev⟩ := slAt_slice h.evs.1
  have hei := h.evs
  rw [hev] at hei hbm
  have hce : m.evs.length ≤ ce := by
    obtain ⟨o2, c2, e2, hc2⟩ := hei.1.slice_of
    injection e2 with e3 e4 e5
    omega
  obtain ⟨b, off, rfl⟩ := hei.1.plain pcells_len (by decide) (by intro e; rw [e] at hk; exact absurd hk (by simp))
  have htk := hei.takeAt (k + 1) hk
  have hlen : (m.evs.take (k + 1)).length = k + 1 := by rw [List.length_take]; omega
  rw [show (k + 1 : Nat) = (m.evs.take (k + 1)).length from hlen.symm] at htk
  rw [hlen] at htk
  have hl1 := hs.more
  have hl2 := hs.ms
  have hl3 := hs.evs
  have hwi := with_any m (some ⟨b, off, none⟩) ce (m.evs.take (k + 1)) w.drew (h.below (below_drew (Below.refl w.heap.size w)) (Nat.le_refl _)).more (h.below (below_drew (Below.refl w.heap.size w)) (Nat.le_refl _)).ms hl1 hl2 (by rw [hlen]; exact htk.below (below_drew (Below.refl w.heap.size w)) (Nat.le_refl _)) (by rw [hlen]; have := hr.evs; unfold Msg.evsOk at this; rw [if_pos h5] at this; omega) (fun p hp => by have := hs.rems p (List.mem_of_mem_take hp); omega)
  rw [hlen, hev] at hwi
  have c0 : w.cell? ⟨bm, 0, none⟩ = some (.int .i64 m.kind) := cell_of_row w bm 0 _ _ _ hbm
  have c1 : w.cell? ⟨bm, 1, none⟩ = some (.int .i64 m.frm) := cell_of_row w bm 1 _ _ _ hbm
  have c2 : w.cell? ⟨bm, 2, none⟩ = some (.int .i64 m.to_) := cell_of_row w bm 2 _ _ _ hbm
  have c3 : w.cell? ⟨bm, 3, none⟩ = some (.int .i64 m.seq) := cell_of_row w bm 3 _ _ _ hbm
  have c4 : w.cell? ⟨bm, 4, none⟩ = some (.int .i64 m.node) := cell_of_row w bm 4 _ _ _ hbm
  have c5 : w.cell? ⟨bm, 5, none⟩ = some (.int .i64 (m.u 0)) := cell_of_row w bm 5 _ _ _ hbm
  have c6 : w.cell? ⟨bm, 6, none⟩ = some (.int .i64 (m.u 1)) := cell_of_row w bm 6 _ _ _ hbm
  have c7 : w.cell? ⟨bm, 7, none⟩ = some (.int .i64 (m.u 2)) := cell_of_row w bm 7 _ _ _ hbm
  have c8 : w.cell? ⟨bm, 8, none⟩ = some (.int .i64 (m.u 3)) := cell_of_row w bm 8 _ _ _ hbm
  have c9 : w.cell? ⟨bm, 9, none⟩ = some (.int .i64 (m.u 4)) := cell_of_row w bm 9 _ _ _ hbm
  have c10 : w.cell? ⟨bm, 10, none⟩ = some (.int .i64 (m.u 5)) := cell_of_row w bm 10 _ _ _ hbm
  have c11 : w.cell? ⟨bm, 11, none⟩ = some (.int .i64 (m.u 6)) := cell_of_row w bm 11 _ _ _ hbm
  have c12 : w.cell? ⟨bm, 12, none⟩ = some (.int .i64 (m.u 7)) := cell_of_row w bm 12 _ _ _ hbm
  have c13 : w.cell? ⟨bm, 13, none⟩ = some (m.hm.val) := cell_of_row w bm 13 _ _ _ hbm
  have c14 : w.cell? ⟨bm, 14, none⟩ = some (.slice (some ⟨b, off, none⟩) m.evs.length ce) := cell_of_row w bm 14 _ _ _ hbm
  have c15 : w.cell? ⟨bm, 15, none⟩ = some (m.hs.val) := cell_of_row w bm 15 _ _ _ hbm
  have HWI := Lib.hid hwi
  have HS := Lib.hid hs
  have HR := Lib.hid hr
  have H5 := Lib.hid h5
  have H0 := Lib.hid h0
  have hcap0 : ¬ ce = 0 := by omega
  have hk1 : k + 1 ≤ m.evs.length := hk
  have hwrap : IntKind.i64.wrap ((k : Int) + 1) = (k : Int) + 1 := by
    rw [IntKind.wrap_i64]; omega
  have h0k : (0 : Int) ≤ (k : Int) + 1 := by omega
  have hkc : (k : Int) + 1 ≤ (ce : Int) := by omega
  have htn : ((k : Int) + 1).toNat = k + 1 := by omega
  have hbn' : Hid (w.cell? ⟨bn, 0, none⟩ = some (.int .i64 mtu)) := hbn
  clear hwi hs hr h5 h0 h hev hei htk hlen hbm
  go_enter Tryz.func130, Tryz.ntmps130
  go_upto_region 1 with fail
  go_cut [5, 6] (fun s5 s6 wx => ∃ (n : Nat) (er : Int), s5 = .int .i64 n ∧ s6 = .int .i64 er ∧ Hid (bodyLen (m.evs.take (k + 1)) ≤ 4096 → er = 0 ∧ n = flen (bodyLen (m.evs.take (k + 1)))) ∧ Hid (4096 < bodyLen (m.evs.take (k + 1)) → er = 6) ∧ Hid (Below w.heap.size w wx))
  case first =>
    go_region_law (first
      | (go_simp; refine HWI.out.mono ?_; rintro e w2 ⟨⟨xa, xn, xc⟩, ⟨za, zn, zc⟩, ⟨ya, yn, yc⟩, qs, rfl, hqs, hox, hoz, hoy, hb2⟩; simp only [Hdr.val]; have HB2 := Lib.hid ((below_drew (Below.refl w.heap.size w)).trans hb2)
         have hms := fit_size HS.out HR.out H5.out H0.out hqs hox hoz hoy hk1
         simp only [Hdr.val] at hms
         have HMS := Lib.hid hms; clear hms hox hoz hoy hb2 hqs HWI)
      | (go_simp; refine HMS.out.mono ?_; rintro e w3 ⟨n, er, rfl, hA, hB, hb3⟩; have HA := Lib.hid hA; have HBB := Lib.hid hB; have HB3 := Lib.hid (HB2.out.trans (hb3.mono HB2.out.size)); clear hA hB hb3 HMS))
    all_goals
      go_wp2_with fail
      go_meet
      exact ⟨n, er, rfl, rfl, HA, HBB, HB3⟩
  case rest =>
    obtain ⟨n, er, rfl, rfl, HA, HBB, HB⟩ := hcut
    have hL := long_eq mtu n er (bodyLen (m.evs.take (k + 1))) HA.out HBB.out hmtu
    have hcn : wc.cell? ⟨bn, 0, none⟩ = some (.int .i64 mtu) := (HB.out.cell (p := ⟨bn, 0, none⟩) (World.block_lt_of_cell? w _ hbn'.out)).trans hbn'.out
    by_cases her : er = 0
    · subst her
      rw [if_pos rfl] at hL
      have HL := Lib.hid hL
      clear hL HWI
      go_wp2_with fail
      go_ret
      exact ⟨congrArg (fun b => Ending.returned (Value.bool b)) HL.out, HB.out⟩
    · rw [if_neg her] at hL
      have HL := Lib.hid hL
      have heb : (er != 0) = true := by simp [her]
      clear hL HWI
      go_wp2_with fail
      go_ret
      exact ⟨congrArg (fun b => Ending.returned (Value.bool b)) HL.out, HB.out⟩
end Go.Proofs.YtenkfnhcdfmkaaaGreat
