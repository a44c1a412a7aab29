/-
  chunk.Split: a right Delta in pieces, each with as many events as one frame holds.
-/
import Derived.Test.YtenkfnhcdfmkaaaGreatMSplitM
namespace Go.Proofs.YtenkfnhcdfmkaaaGreat
open Go.RowKit Go.Lib Go.Shelf
set_option linter.unusedVariables false
set_option linter.unusedSimpArgs false
def Msg.withEvs (m : Msg) (he : Hdr) (l : List PEv) : Msg := ⟨m.kind, m.frm, m.to_, m.seq, m.node, m.u, m.more, l, m.ms, m.hm, he, m.hs⟩
theorem Msg.small.part {m : Msg} (h : m.small) (he : Hdr) (k : Nat) : (m.withEvs he (m.evs.drop k)).small :=
  ⟨h.more, h.ms, by show (m.evs.drop k).length ≤ 3000; rw [List.length_drop]; have := h.evs; omega, fun p hp => h.rems p (List.mem_of_mem_drop hp)⟩
theorem Msg.right.part' {m : Msg} (h : m.right) (h5 : m.kind = 5) (he : Hdr) (k : Nat) : (m.withEvs he (m.evs.drop k)).right :=
  Msg.part h h5 (fun p hp => (h.five h5).1 p (List.mem_of_mem_drop hp)) (by rw [List.length_drop]; have := (h.five h5).2; omega)
set_option maxRecDepth 100000 in
set_option maxHeartbeats 4000000 in
theorem split_any (m : Msg) (hs : m.small) (hr : m.right) (h5 : m.kind = 5) (h0 : m.ms = []) (mtu : Nat) (hm : 512 ≤ mtu ∧ mtu ≤ 4096) (w : World) (h : MsgIn w m) :
    Calls Tryz.prog 83 #[.agg #[.int .i64 m.kind, .int .i64 m.frm, .int .i64 m.to_, .int .i64 m.seq, .int .i64 m.node, .int .i64 (m.u 0), .int .i64 (m.u 1), .int .i64 (m.u 2), .int .i64 (m.u 3), .int .i64 (m.u 4), .int .i64 (m.u 5), .int .i64 (m.u 6), .int .i64 (m.u 7), m.hm.val, m.he.val, m.hs.val], .int .i64 mtu] w fun e w' => ∃ (v : Value) (l : List Msg), e = .returned (.tuple #[v, .int .i64 0]) ∧ MRow w.heap.size w' v l ∧ Pieces mtu m.evs (l.map fun x => x.evs.map (·.2)) ∧ (∀ x ∈ l, x.like m) ∧ Below w.heap.size w w' := by
  have hp : Tryz.prog.follows .mixedOrders = true := by kernel_rfl
  have hp2 : Tryz.prog.follows .lateStores = true := by kernel_rfl
  obtain ⟨w1, hw1⟩ : ∃ w1, w.alloc (.cells #[.int .i64 m.kind, .int .i64 m.frm, .int .i64 m.to_, .int .i64 m.seq, .int .i64 m.node, .int .i64 (m.u 0), .int .i64 (m.u 1), .int .i64 (m.u 2), .int .i64 (m.u 3), .int .i64 (m.u 4), .int .i64 (m.u 5), .int .i64 (m.u 6), .int .i64 (m.u 7), m.hm.val, m.he.val, m.hs.val] 38) = w1 := ⟨_, rfl⟩
  have hb : Below w.heap.size w w1 := by rw [← hw1]; exact (Below.refl _ _).alloc (Nat.le_refl _) _
  have r0 : w1.heap[w.heap.size]? = some (.cells #[.int .i64 m.kind, .int .i64 m.frm, .int .i64 m.to_, .int .i64 m.seq, .int .i64 m.node, .int .i64 (m.u 0), .int .i64 (m.u 1), .int .i64 (m.u 2), .int .i64 (m.u 3), .int .i64 (m.u 4), .int .i64 (m.u 5), .int .i64 (m.u 6), .int .i64 (m.u 7), m.hm.val, m.he.val, m.hs.val] 38) := by rw [← hw1]; exact heap_alloc_new w _
  have hlt0 : w.heap.size < w1.heap.size := (Array.getElem?_eq_some_iff.1 r0).1
  have HIN := Lib.hid h
  have HF := Lib.hid (fitTop_any m hs hr h5 h0 mtu hm w1 (h.below hb (Nat.le_refl _)))
  have HLD := Lib.hid (load_whole r0 rfl)
  have hfit := fun (he : Hdr) (k : Nat) W hW => fit_any (m.withEvs he (m.evs.drop k)) (hs.part he k) (hr.part' h5 he k) h5 h0 mtu hm W hW
  simp only [Msg.withEvs] at hfit
  have HFT := Lib.hid hfit
  have hrev := (hr.five h5).1
  have hrle := (hr.five h5).2
  have hl1 := hs.more
  have hrems := hs.rems
  have HRE := Lib.hid hrev
  have HRM := Lib.hid hrems
  have H0 := Lib.hid h0
  have HR0 := Lib.hid r0
  have HW1 := Lib.hid hw1
  have HB := Lib.hid hb
  clear hs hr h5 h0 h hb r0 hw1 hfit hrev hrems
  obtain ⟨hm1, hm2⟩ := hm
  go_enter Tryz.func83, Tryz.ntmps83
  go_upto_region 1 with fail
  rw [HW1.out]
  go_wp2_with (refine wpList_loadAgg _ rfl 38 _ rfl 16 (by kernel_rfl) (by kernel_rfl) ⟨w.heap.size, 0, none⟩ rfl _ HLD.out ?_)
  refine HF.out.mono ?_
  rintro e w2 ⟨n0, rfl, hf0, hb2⟩
  have HF0 := Lib.hid hf0
  have HR2 := Lib.hid ((hb2.block w.heap.size hlt0).trans HR0.out)
  have HB2 := Lib.hid (HB.out.trans (hb2.mono HB.out.size))
  have hz2 := hb2.size
  clear hb2 hf0 HF HLD HR0 HW1 HB
  go_wp2_with fail
  go_loopg [4, 6] m.evs.length (fun gk s4 s6 wr => ∃ (v : Value) (l : List Msg) (he : Hdr) (at_ n : Nat), s4 = v ∧ s6 = .int .i64 n ∧ at_ ≤ m.evs.length ∧ m.evs.length - at_ ≤ gk ∧ l.length ≤ at_ ∧ Hid (Fits mtu (m.evs.drop at_) n) ∧ Hid (EvsAt w he.val (m.evs.drop at_)) ∧ Hid (wr.heap[w.heap.size]? = some (.cells #[.int .i64 m.kind, .int .i64 m.frm, .int .i64 m.to_, .int .i64 m.seq, .int .i64 m.node, .int .i64 (m.u 0), .int .i64 (m.u 1), .int .i64 (m.u 2), .int .i64 (m.u 3), .int .i64 (m.u 4), .int .i64 (m.u 5), .int .i64 (m.u 6), .int .i64 (m.u 7), m.hm.val, he.val, m.hs.val] 38)) ∧ Hid (MRow w2.heap.size wr v l) ∧ Hid (∀ rest, Pieces mtu (m.evs.drop at_) rest → Pieces mtu m.evs ((l.map fun x => x.evs.map (·.2)) ++ rest)) ∧ Hid (∀ x ∈ l, x.like m) ∧ Hid (Below w.heap.size w wr) ∧ w2.heap.size ≤ wr.heap.size)
  case atStart => exact ⟨.slice none 0 0, [], m.he, 0, n0, rfl, rfl, Nat.zero_le _, Nat.le_refl _, Nat.le_refl _, HF0.out, HIN.out.evs, HR2.out, MRow.nil _ _, fun _ h => h, (fun x hx => by cases hx), HB2.out, Nat.le_refl _⟩
  case round =>
    obtain ⟨v, l, ⟨ae, ne, ce⟩, at_, n, rfl, rfl, hat, hgk, hll, HFN, HEV, HRB, HMR, HPC, HLK, HBB, hin2⟩ := hrel
    obtain ⟨oe', ce', hev'⟩ := slAt_slice HEV.out.1
    simp only [Hdr.val, Value.slice.injEq] at hev'
    obtain ⟨rfl, rfl, rfl⟩ := hev'
    obtain ⟨pt, hpt⟩ : ∃ pt, m.evs.drop at_ = pt := ⟨_, rfl⟩
    have HPL := Lib.hid (show pt.length = m.evs.length - at_ by rw [← hpt, List.length_drop])
    have hple : at_ + pt.length ≤ m.evs.length := by have := HPL.out; omega
    have HPT := Lib.hid hpt
    rw [hpt] at HFN HEV HPC HRB
    simp only [Hdr.val] at HEV HRB
    have hfl := HFN.out.le
    obtain ⟨c0, c1, c2, c3, c4, c5, c6, c7, c8, c9, c10, c11, c12, c13, c14, c15⟩ := msg_cells HRB.out
    by_cases hlt : 0 < pt.length
    · have hltz : (0 : Int) < (pt.length : Int) := by omega
      have hnp : 0 < n := HFN.out.pos hm1 (fun p hp => HRE.out p (List.mem_of_mem_drop (hpt ▸ hp))) hlt
      have hnz : (0 : Int) < (n : Int) := by omega
      have hevs := HEV.out.below HBB.out (Nat.le_refl _)
      obtain ⟨b, off, rfl⟩ := hevs.1.plain pcells_len (by decide) (by intro e; rw [e] at hlt; exact absurd hlt (by simp))
      have hce : pt.length ≤ ce := by
        obtain ⟨_, _, e2, hc2⟩ := hevs.1.slice_of
        injection e2 with e3 e4 e5
        omega
      have htk := hevs.takeAt n hfl
      have hlen : (pt.take n).length = n := by rw [List.length_take]; omega
      have hin : MsgIn wr m := HIN.out.below HBB.out (Nat.le_refl _)
      have hdr := below_drew (Below.refl wr.heap.size wr)
      have hwi := with_any (m.withEvs ⟨some ⟨b, off, none⟩, pt.length, ce⟩ pt) (some ⟨b, off, none⟩) ce (pt.take n) wr.drew (hin.below hdr (Nat.le_refl _)).more (hin.below hdr (Nat.le_refl _)).ms hl1 (by show m.ms.length ≤ 1000; rw [H0.out]; simp) (by rw [hlen]; exact htk.below hdr (Nat.le_refl _)) (by rw [hlen]; omega) (fun p hp => by have := HRM.out p (List.mem_of_mem_drop (hpt ▸ List.mem_of_mem_take hp)); omega)
      rw [hlen] at hwi
      simp only [Msg.withEvs, Hdr.val] at hwi
      have HWI := Lib.hid hwi
      have hcap0 : ¬ ce = 0 := by omega
      have hnc : (n : Int) ≤ (ce : Int) := by omega
      have hn0 : (0 : Int) ≤ (n : Int) := by omega
      have htn : ((n : Int)).toNat = n := by omega
      have hszr := HBB.out.size
      clear hpt hwi htk hlen hin hdr hevs
      go_upto_region 5 with fail
      go_cut [4] (fun s4 wx => ∃ (v2 : Value) (M : Msg), s4 = v2 ∧ Hid (M.like m) ∧ Hid (M.evs.map (·.2) = (pt.take n).map (·.2)) ∧ Hid (MRow w2.heap.size wx v2 (l ++ [M])) ∧ Hid (Below w2.heap.size wr wx))
      case first =>
        go_region_law (first
          | (go_simp; refine HWI.out.mono ?_; rintro e w7 ⟨⟨xa, xn, xc⟩, ⟨za, zn, zc⟩, ⟨ya, yn, yc⟩, qs, rfl, hqs, hox, hoz, hoy, hb7⟩; simp only [Hdr.val]; have HB7 := Lib.hid ((below_drew (Below.refl wr.heap.size wr)).trans hb7); have HQS := Lib.hid hqs
             have hmo : MOwn wr.heap.size w7 (⟨m.kind, m.frm, m.to_, m.seq, m.node, m.u, m.more, qs, m.ms, ⟨xa, xn, xc⟩, ⟨za, zn, zc⟩, ⟨ya, yn, yc⟩⟩ : Msg) := ⟨hox, hoz, hoy⟩
             have HMO := Lib.hid hmo
             have HR7 := Lib.hid (HMR.out.below HB7.out (Nat.le_refl _))
             have hs7 := HB7.out.size
             clear hmo hox hoz hoy hb7 hqs HWI)
          | (refine step_app Msg.cells 16 Msg.cells_len (by decide) Msg.cells_one _ rfl _ _ 52 rfl w2.heap.size 38 _ 176 Tryz.underlying52 infoMsgS rfl u4 l rfl (HR7.out.row.below ((Below.refl w7.heap.size w7).alloc (Nat.le_refl _) _) (Nat.le_refl _)) _ [(⟨m.kind, m.frm, m.to_, m.seq, m.node, m.u, m.more, qs, m.ms, ⟨xa, xn, xc⟩, ⟨za, zn, zc⟩, ⟨ya, yn, yc⟩⟩ : Msg)] rfl (slAt_new (enc := Msg.cells) w7 (Msg.cells (⟨m.kind, m.frm, m.to_, m.seq, m.node, m.u, m.more, qs, m.ms, ⟨xa, xn, xc⟩, ⟨za, zn, zc⟩, ⟨ya, yn, yc⟩⟩ : Msg)).toArray 38 1 1 (0, 0) [(⟨m.kind, m.frm, m.to_, m.seq, m.node, m.u, m.more, qs, m.ms, ⟨xa, xn, xc⟩, ⟨za, zn, zc⟩, ⟨ya, yn, yc⟩⟩ : Msg)] rfl rfl (by decide)) (by simp; omega) (by simp; omega) (by simp; omega) ?_
             intro v8 w8 hown8 hg8 hv8; have HO8 := Lib.hid hown8; have HG8 := Lib.hid hg8; have HV8 := Lib.hid hv8; clear hown8 hg8 hv8))
        all_goals
          go_wp2_with fail
          go_meet
          have hrd := MRow.round hin2 HMR.out HB7.out HMO.out HO8.out HG8.out HV8.out
          exact ⟨v8, (⟨m.kind, m.frm, m.to_, m.seq, m.node, m.u, m.more, qs, m.ms, ⟨xa, xn, xc⟩, ⟨za, zn, zc⟩, ⟨ya, yn, yc⟩⟩ : Msg), rfl, ⟨rfl, rfl, rfl, rfl, rfl, rfl, rfl, rfl⟩, HQS.out, hrd.1, hrd.2⟩
      case rest =>
        obtain ⟨v2, M, rfl, HL2, HQ2, HM2, HBW⟩ := hcut
        have hrow := (HBW.out.block w.heap.size (by omega)).trans HRB.out
        have v14 := cell_of_row wc w.heap.size 14 _ _ _ hrow
        have z14 : wc.frozen? ⟨w.heap.size, 14, none⟩ = false := by unfold World.frozen?; rw [hrow]; simp
        replace v14 : wc.cell? ⟨w.heap.size, 14, none⟩ = some (.slice (some ⟨b, off, none⟩) pt.length ce) := v14
        have hnl : (n : Int) ≤ (pt.length : Int) := by omega
        have HROW := Lib.hid hrow
        clear hrow HRB HMR c0 c1 c2 c3 c4 c5 c6 c7 c8 c9 c10 c11 c12 c13 c14 c15 HWI
        by_cases hnce : n = ce
        · go_upto_region 7 with fail
          have hev2 := (HEV.out.dropAt n hfl).1 hnce
          generalize hws : wc.setCell ⟨w.heap.size, 14, none⟩ (.slice (some ⟨b, off, none⟩) 0 0) = ws at *
          have hrow2 : ws.heap[w.heap.size]? = some (.cells #[.int .i64 m.kind, .int .i64 m.frm, .int .i64 m.to_, .int .i64 m.seq, .int .i64 m.node, .int .i64 (m.u 0), .int .i64 (m.u 1), .int .i64 (m.u 2), .int .i64 (m.u 3), .int .i64 (m.u 4), .int .i64 (m.u 5), .int .i64 (m.u 6), .int .i64 (m.u 7), m.hm.val, .slice (some ⟨b, off, none⟩) 0 0, m.hs.val] 38) := by rw [← hws]; exact heap_cellSame wc w.heap.size 14 _ _ _ HROW.out
          have hk2 : ∀ k, k ≠ w.heap.size → ws.heap[k]? = wc.heap[k]? := fun k hk => by rw [← hws]; exact Below.heap_setCell wc ⟨w.heap.size, 14, none⟩ _ k hk
          have hb2 : Below w.heap.size w ws := by rw [← hws]; exact (HBB.out.trans ((HBW.out).mono (by omega))).setCell (p := ⟨w.heap.size, 14, none⟩) (Nat.le_refl _) _
          have hz3 : wc.heap.size ≤ ws.heap.size := by rw [← hws]; simp [World.setCell]
          have hev3 : EvsAt w (.slice (some ⟨b, off, none⟩) 0 0) (m.evs.drop (at_ + n)) := by
            rw [← List.drop_drop, HPT.out]
            exact hev2
          have hin3 := HIN.out.below hb2 (Nat.le_refl _)
          have hft := HFT.out ⟨some ⟨b, off, none⟩, 0, 0⟩ (at_ + n) ws ⟨hin3.more, hev3.below hb2 (Nat.le_refl _), hin3.ms⟩
          simp only [Hdr.val] at hft
          have HFT3 := Lib.hid hft
          have HLD3 := Lib.hid (load_whole hrow2 rfl)
          have HEV3 := Lib.hid hev3
          have HRW3 := Lib.hid hrow2
          have HM3 := Lib.hid (HM2.out.keep (w' := ws) fun g hg _ => hk2 g (by omega))
          have HB3 := Lib.hid hb2
          have HBZ : Hid (w2.heap.size ≤ ws.heap.size) := Nat.le_trans hin2 (Nat.le_trans HBW.out.size hz3)
          clear hws hft hev2 hev3 hin3 hrow2 hk2 hb2 HROW HM2 HEV HBW HBB
          go_wp2_with (refine wpList_loadAgg _ rfl 38 _ rfl 16 (by kernel_rfl) (by kernel_rfl) ⟨w.heap.size, 0, none⟩ rfl _ HLD3.out ?_)
          refine HFT3.out.mono ?_
          rintro e w9 ⟨r, rfl, hf9, hb9⟩
          have HF9 := Lib.hid hf9
          have HR9 := Lib.hid ((hb9.block w.heap.size (by have := (Array.getElem?_eq_some_iff.1 HRW3.out).1; exact this)).trans HRW3.out)
          have HM9 := Lib.hid (HM3.out.below hb9 (Nat.le_refl _))
          have HB9 := Lib.hid (HB3.out.trans (hb9.mono HB3.out.size))
          have hz9 : w2.heap.size ≤ w9.heap.size := by have := hb9.size; have := HBZ.out; omega
          have HP9 : Hid (∀ rest, Pieces mtu (m.evs.drop (at_ + n)) rest → Pieces mtu m.evs (((l ++ [M]).map fun x => x.evs.map (·.2)) ++ rest)) := fun rest hr => by
            rw [List.map_append, List.append_assoc]
            refine HPC.out _ ?_
            have h1 : Pieces mtu (pt.drop n) rest := by rw [← HPT.out, List.drop_drop]; exact hr
            have h2 := Pieces.cons hnp HFN.out h1
            rw [← HQ2.out] at h2
            exact h2
          have HL9 : Hid (∀ x ∈ l ++ [M], x.like m) := fun x hx => by
            rcases List.mem_append.1 hx with hx | hx
            · exact HLK.out x hx
            · obtain rfl : x = M := by simpa using hx
              exact HL2.out
          have hlen9 : (l ++ [M]).length ≤ at_ + n := by simp; omega
          have hle9 : at_ + n ≤ m.evs.length := by omega
          have hms9 : m.evs.length - (at_ + n) < gk := by omega
          clear hf9 hb9 HFT3 HLD3 HRW3 HM3 HB3 HPC HLK HL2 HQ2 HFT
          go_wp2_with fail
          go_roundg (m.evs.length - (at_ + n))
          case measure => exact hms9
          case rel => exact ⟨_, l ++ [M], ⟨some ⟨b, off, none⟩, 0, 0⟩, at_ + n, r, rfl, rfl, hle9, Nat.le_refl _, hlen9, HF9.out, HEV3.out, HR9.out, HM9.out, HP9.out, HL9.out, HB9.out, hz9⟩
        · go_upto_region 7 with fail
          have hev2 := (HEV.out.dropAt n hfl).2 hnce
          generalize hws : wc.setCell ⟨w.heap.size, 14, none⟩ (.slice (some ⟨b, off + n * 14, none⟩) (pt.length - n) (ce - n)) = ws at *
          have hrow2 : ws.heap[w.heap.size]? = some (.cells #[.int .i64 m.kind, .int .i64 m.frm, .int .i64 m.to_, .int .i64 m.seq, .int .i64 m.node, .int .i64 (m.u 0), .int .i64 (m.u 1), .int .i64 (m.u 2), .int .i64 (m.u 3), .int .i64 (m.u 4), .int .i64 (m.u 5), .int .i64 (m.u 6), .int .i64 (m.u 7), m.hm.val, .slice (some ⟨b, off + n * 14, none⟩) (pt.length - n) (ce - n), m.hs.val] 38) := by rw [← hws]; exact heap_cellSame wc w.heap.size 14 _ _ _ HROW.out
          have hk2 : ∀ k, k ≠ w.heap.size → ws.heap[k]? = wc.heap[k]? := fun k hk => by rw [← hws]; exact Below.heap_setCell wc ⟨w.heap.size, 14, none⟩ _ k hk
          have hb2 : Below w.heap.size w ws := by rw [← hws]; exact (HBB.out.trans ((HBW.out).mono (by omega))).setCell (p := ⟨w.heap.size, 14, none⟩) (Nat.le_refl _) _
          have hz3 : wc.heap.size ≤ ws.heap.size := by rw [← hws]; simp [World.setCell]
          have hev3 : EvsAt w (.slice (some ⟨b, off + n * 14, none⟩) (pt.length - n) (ce - n)) (m.evs.drop (at_ + n)) := by
            rw [← List.drop_drop, HPT.out]
            exact hev2
          have hin3 := HIN.out.below hb2 (Nat.le_refl _)
          have hft := HFT.out ⟨some ⟨b, off + n * 14, none⟩, pt.length - n, ce - n⟩ (at_ + n) ws ⟨hin3.more, hev3.below hb2 (Nat.le_refl _), hin3.ms⟩
          simp only [Hdr.val] at hft
          have HFT3 := Lib.hid hft
          have HLD3 := Lib.hid (load_whole hrow2 rfl)
          have HEV3 := Lib.hid hev3
          have HRW3 := Lib.hid hrow2
          have HM3 := Lib.hid (HM2.out.keep (w' := ws) fun g hg _ => hk2 g (by omega))
          have HB3 := Lib.hid hb2
          have HBZ : Hid (w2.heap.size ≤ ws.heap.size) := Nat.le_trans hin2 (Nat.le_trans HBW.out.size hz3)
          clear hws hft hev2 hev3 hin3 hrow2 hk2 hb2 HROW HM2 HEV HBW HBB
          go_wp2_with (refine wpList_loadAgg _ rfl 38 _ rfl 16 (by kernel_rfl) (by kernel_rfl) ⟨w.heap.size, 0, none⟩ rfl _ HLD3.out ?_)
          refine HFT3.out.mono ?_
          rintro e w9 ⟨r, rfl, hf9, hb9⟩
          have HF9 := Lib.hid hf9
          have HR9 := Lib.hid ((hb9.block w.heap.size (by have := (Array.getElem?_eq_some_iff.1 HRW3.out).1; exact this)).trans HRW3.out)
          have HM9 := Lib.hid (HM3.out.below hb9 (Nat.le_refl _))
          have HB9 := Lib.hid (HB3.out.trans (hb9.mono HB3.out.size))
          have hz9 : w2.heap.size ≤ w9.heap.size := by have := hb9.size; have := HBZ.out; omega
          have HP9 : Hid (∀ rest, Pieces mtu (m.evs.drop (at_ + n)) rest → Pieces mtu m.evs (((l ++ [M]).map fun x => x.evs.map (·.2)) ++ rest)) := fun rest hr => by
            rw [List.map_append, List.append_assoc]
            refine HPC.out _ ?_
            have h1 : Pieces mtu (pt.drop n) rest := by rw [← HPT.out, List.drop_drop]; exact hr
            have h2 := Pieces.cons hnp HFN.out h1
            rw [← HQ2.out] at h2
            exact h2
          have HL9 : Hid (∀ x ∈ l ++ [M], x.like m) := fun x hx => by
            rcases List.mem_append.1 hx with hx | hx
            · exact HLK.out x hx
            · obtain rfl : x = M := by simpa using hx
              exact HL2.out
          have hlen9 : (l ++ [M]).length ≤ at_ + n := by simp; omega
          have hle9 : at_ + n ≤ m.evs.length := by omega
          have hms9 : m.evs.length - (at_ + n) < gk := by omega
          clear hf9 hb9 HFT3 HLD3 HRW3 HM3 HB3 HPC HLK HL2 HQ2 HFT
          go_wp2_with fail
          go_roundg (m.evs.length - (at_ + n))
          case measure => exact hms9
          case rel => exact ⟨_, l ++ [M], ⟨some ⟨b, off + n * 14, none⟩, pt.length - n, ce - n⟩, at_ + n, r, rfl, rfl, hle9, Nat.le_refl _, hlen9, HF9.out, HEV3.out, HR9.out, HM9.out, HP9.out, HL9.out, HB9.out, hz9⟩
    · have hltz : ¬ (0 : Int) < (pt.length : Int) := by omega
      have hnil : pt = [] := List.eq_nil_of_length_eq_zero (by omega)
      have HP := Lib.hid (HPC.out [] (by rw [hnil]; exact .nil))
      have hzz : w.heap.size ≤ w2.heap.size := by omega
      clear hnil HPC
      go_wp2_with fail
      go_ret2
      exact ⟨_, rfl, l, HMR.out.lower hzz, by have := HP.out; rwa [List.append_nil] at this, HLK.out, HBB.out⟩
end Go.Proofs.YtenkfnhcdfmkaaaGreat
