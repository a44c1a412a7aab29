/-
  What becomes of an Ack.
  As Tell, of a region with an append among its operations, whatever comes ahead of it and behind it, and a tail that waits for all of them.
-/
import Derived.Test.YtejihgfigclppaaGreatMSwimX
import Derived.Test.YtejihgfigclppaaGreatMMsgA
import Derived.Test.YtejihgfigclppaaGreatMWhole
namespace Go.Proofs.YtejihgfigclppaaGreat
open Go.Shelf Go.RowKit Go.Lib Go.Sort
set_option linter.unusedVariables false
set_option linter.unusedSimpArgs false
def Stepped (M : DM) (d' : Det) (out : List Sent) (w : World) (v : Value) (w' : World) : Prop := ∃ M' ps, DetAt w' M' d' ∧ MsgsAt w.heap.size w' v ps ∧ ps.map (·.2) = out ∧ Aside M'.own v ps ∧ NewM M M' w ∧ Touch (fun k => k ∈ M.own) w w'
theorem Stepped.same {M : DM} {d : Det} {w w' : World} (h : DetAt w M d) (hb : Below w.heap.size w w') : Stepped M d [] w (.slice none 0 0) w' := ⟨M, [], h.below hb, MsgsAt.none _ _, rfl, Aside.none _, NewM.refl _ _, Touch.of_below hb (Nat.le_refl _)⟩
theorem DetAt.setEr {W W' : World} {M : DM} {d : Det} (h : DetAt W M d) {g n n' cap : Nat} (he : M.ev = .slice (some ⟨g, 0, none⟩) n cap) {l : List Er} (hO : Owns Er.cells 4 0 149 W' (.slice (some ⟨g, 0, none⟩) n' cap) l) (hg : W.grownBy W' (some g)) :
  DetAt (W'.setCell ⟨M.g, 12, none⟩ (.slice (some ⟨g, 0, none⟩) n' cap)) { M with ev := .slice (some ⟨g, 0, none⟩) n' cap } { d with er := l } := by
 obtain ⟨n1, n2, n3, n4, n5, n6, n7, n8, n9⟩ := nod_ne h.nod
 have hge : M.ev.ownBlock = some g := by rw [he]; rfl
 obtain ⟨e1, e2, e3, e4, e5⟩ := n8 g hge
 have ho : ∀ k, k < W.heap.size → k ≠ M.g → k ≠ g → (W'.setCell ⟨M.g, 12, none⟩ (.slice (some ⟨g, 0, none⟩) n' cap)).heap[k]? = W.heap[k]? := fun k hk h1 h2 => (Below.heap_setCell W' ⟨M.g, 12, none⟩ _ _ h1).trans (hg.block k hk fun e => h2 (Option.some.inj e))
 exact {
  obj := heap_setCell_same W' M.g 12 _ _ _ _ ((hg.block _ h.lt fun e => e1 (Option.some.inj e).symm).trans h.obj)
  tab := h.tab.keep (ho _ h.tab.lt n1.symm fun e => e2 e.symm)
  ord := h.ord.keep (ho _ h.ord.lt n2.symm fun e => e3 e.symm) fun b hb => ho b (h.ord.lt2 b hb) (n9 b hb).1 fun e => (n9 b hb).2.2.2.2.2 (by rw [hge, e])
  since := h.since.kept (ho _ h.since.lt n3.symm fun e => e4 e.symm)
  prs := h.prs.keep fun b hb => ho b (h.prs.lt b hb) (n7 b hb).1 fun e => e5 (by rw [← e]; exact hb)
  ers := hO.keep fun b hb => Below.heap_setCell W' ⟨M.g, 12, none⟩ _ _ (by
   obtain rfl : g = b := Option.some.inj hb
   exact e1)
  nod := by
   have := h.nod
   unfold DM.own at this ⊢
   rw [he] at this
   exact this }
theorem ack_none {d : Det} {m : Got} (h : ¬ d.pr = some (m.seq, m.node)) (hf : d.er.findIdx? (Er.is m.seq m.node) = none) : d.ack m = (d, []) := by
 unfold Det.ack
 rw [if_neg h]
 rw [show d.er.findIdx? (fun x => decide (x.num = m.seq ∧ x.node = m.node)) = none from hf]
theorem ack_some {d : Det} {m : Got} (h : ¬ d.pr = some (m.seq, m.node)) {i : Nat} (hf : d.er.findIdx? (Er.is m.seq m.node) = some i) (hi : i < d.er.length) : d.ack m = ({ d with er := d.er.eraseIdx i }, [d.send 2 d.er[i].frm d.er[i].seq d.er[i].node]) := by
 unfold Det.ack
 rw [if_neg h]
 rw [show d.er.findIdx? (fun x => decide (x.num = m.seq ∧ x.node = m.node)) = some i from hf]
 simp only [List.getElem?_eq_getElem hi]
set_option maxRecDepth 100000 in
set_option maxHeartbeats 16000000 in
theorem ack_any (M : DM) (d : Det) (hok : DetOk d) (m : Msg) (w : World) (h : DetAt w M d) :
  Calls Tryz.prog 43 #[.pointer (some ⟨M.g, 0, none⟩), .agg #[.int .i64 m.kind, .int .i64 m.frm, .int .i64 m.to_, .int .i64 m.seq, .int .i64 m.node, .int .i64 (m.u 0), .int .i64 (m.u 1), .int .i64 (m.u 2), .int .i64 (m.u 3), .int .i64 (m.u 4), .int .i64 (m.u 5), .int .i64 (m.u 6), .int .i64 (m.u 7), m.hm.val, m.he.val, m.hs.val]] w fun e w' => ∃ v, e = .returned v ∧ Stepped M (d.ack m.got).1 (d.ack m.got).2 w v w' := by
 have hp : Tryz.prog.follows .mixedOrders = true := by kernel_rfl
 obtain ⟨w1, hw1⟩ : ∃ w1, w.alloc (.cells #[.int .i64 m.kind, .int .i64 m.frm, .int .i64 m.to_, .int .i64 m.seq, .int .i64 m.node, .int .i64 (m.u 0), .int .i64 (m.u 1), .int .i64 (m.u 2), .int .i64 (m.u 3), .int .i64 (m.u 4), .int .i64 (m.u 5), .int .i64 (m.u 6), .int .i64 (m.u 7), m.hm.val, m.he.val, m.hs.val] 42) = w1 := ⟨_, rfl⟩
 have hb1 : Below w.heap.size w w1 := by rw [← hw1]; exact (Below.refl _ _).alloc (Nat.le_refl _) _
 have hr1 : w1.heap[w.heap.size]? = some (.cells #[.int .i64 m.kind, .int .i64 m.frm, .int .i64 m.to_, .int .i64 m.seq, .int .i64 m.node, .int .i64 (m.u 0), .int .i64 (m.u 1), .int .i64 (m.u 2), .int .i64 (m.u 3), .int .i64 (m.u 4), .int .i64 (m.u 5), .int .i64 (m.u 6), .int .i64 (m.u 7), m.hm.val, m.he.val, m.hs.val] 42) := by rw [← hw1]; exact heap_alloc_new w _
 have c3 : w1.cell? ⟨w.heap.size, 3, none⟩ = some (.int .i64 m.seq) := cell_of_row w1 _ 3 _ _ _ hr1
 have c4 : w1.cell? ⟨w.heap.size, 4, none⟩ = some (.int .i64 m.node) := cell_of_row w1 _ 4 _ _ _ hr1
 have hsz1 : w1.heap.size = w.heap.size + 1 := by rw [← hw1]; exact World.size_alloc _ _
 obtain ⟨w2, hw2⟩ : ∃ w2, w1.alloc (.cells #[.int .i64 m.seq, .int .i64 m.node] 130) = w2 := ⟨_, rfl⟩
 have hb2 : Below w.heap.size w w2 := by rw [← hw2]; exact hb1.alloc hb1.size _
 have hr2 : w2.heap[w1.heap.size]? = some (.cells #[.int .i64 m.seq, .int .i64 m.node] 130) := by rw [← hw2]; exact heap_alloc_new w1 _
 have hsz2 : w2.heap.size = w.heap.size + 2 := by rw [← hw2, World.size_alloc, hsz1]
 rw [hsz1] at hr2
 have hD2 := h.below hb2
 have k9 : w2.cell? ⟨M.g, 9, none⟩ = some (prV M.pb) := hD2.cell 9
 have g0 : w2.cell? ⟨w.heap.size + 1, 0, none⟩ = some (.int .i64 m.seq) := cell_of_row w2 _ 0 _ _ _ hr2
 have g1 : w2.cell? ⟨w.heap.size + 1, 1, none⟩ = some (.int .i64 m.node) := cell_of_row w2 _ 1 _ _ _ hr2
 have hprs := hD2.prs
 have HW1 := Lib.hid hw1
 have HW2 := Lib.hid hw2
 have HB2 := Lib.hid hb2
 have HD2 := Lib.hid hD2
 have HR2 := Lib.hid hr2
 have HOK := Lib.hid hok
 have HD := Lib.hid h
 clear hw1 hw2 hb1 hb2 hr1 hr2 hD2 hok h
 go_enter Tryz.func43, Tryz.ntmps43
 go_wp2_with fail
 rw [HW1.out, HW2.out]
 obtain ⟨hit, hhit⟩ : ∃ hit, decide (d.pr = some (m.seq, m.node)) = hit := ⟨_, rfl⟩
 have HH := Lib.hid hhit
 clear hhit
 go_cut [27] (fun s27 wx => s27 = .bool hit ∧ ∃ q, wx = w2.drewN q)
 case first =>
  cases hd : d.pr with
  | none =>
   rw [hd] at hprs
   have hpb : M.pb = none := by cases hm : M.pb with
    | none => rfl
    | some b => rw [hm] at hprs; exact hprs.elim
   rw [hpb] at k9
   have k9' : w2.cell? ⟨M.g, 9, none⟩ = some (.pointer none) := k9
   have e : hit = false := by rw [← HH.out, hd]; simp
   subst e
   clear hprs hd k9 c3 c4
   go_quiet (fail)
   go_wp2_with fail
   go_meet
   exact ⟨rfl, _, rfl⟩
  | some p =>
   obtain ⟨num, t⟩ := p
   rw [hd] at hprs
   obtain ⟨b, hpb, hprb⟩ : ∃ b, M.pb = some b ∧ w2.heap[b]? = some (.cells #[.int .i64 num, .int .i64 t] 130) := by
    cases hm : M.pb with
    | none => rw [hm] at hprs; exact hprs.elim
    | some b => rw [hm] at hprs; exact ⟨b, rfl, hprs⟩
   rw [hpb] at k9
   have k9' : w2.cell? ⟨M.g, 9, none⟩ = some (.pointer (some ⟨b, 0, none⟩)) := k9
   have kb0 : w2.cell? ⟨b, 0, none⟩ = some (.int .i64 num) := cell_of_row w2 b 0 _ _ _ hprb
   have kb1 : w2.cell? ⟨b, 1, none⟩ = some (.int .i64 t) := cell_of_row w2 b 1 _ _ _ hprb
   have heq := run_eql_ask num t m.seq m.node
   have e : decide (num = m.seq ∧ t = m.node) = hit := by rw [← HH.out, hd]; simp
   rw [e] at heq
   clear hprs hd k9 c3 c4 e hprb
   go_quiet (fail)
   go_wp2_with fail
   go_meet
   exact ⟨rfl, _, rfl⟩
 case rest =>
  obtain ⟨rfl, q, rfl⟩ := hcut
  have hDq : DetAt (w2.drewN q) M d := HD2.out.keep fun _ _ => rfl
  have HRq : Hid ((w2.drewN q).heap[w.heap.size + 1]? = some (.cells #[.int .i64 m.seq, .int .i64 m.node] 130)) := HR2.out
  have HBq : Hid (Below w.heap.size w (w2.drewN q)) := HB2.out.trans ((below_drewN w2 q).mono HB2.out.size)
  have hszq : (w2.drewN q).heap.size = w.heap.size + 2 := hsz2
  have z9 := hDq.frozen 9
  have c9 : (w2.drewN q).cell? ⟨M.g, 9, none⟩ = some (prV M.pb) := hDq.cell 9
  have HDq := Lib.hid hDq
  clear hDq HD2 HR2 HB2 hsz2 k9 g0 g1 hprs c3 c4 HW1 HW2
  generalize w2.drewN q = w3 at *
  cases hit with
  | true =>
   have hpr : d.pr = some (m.seq, m.node) := of_decide_eq_true HH.out
   have hak : d.ack m.got = ({ d with pr := none }, []) := by unfold Det.ack; exact if_pos hpr
   have HAK := Lib.hid hak
   have hD5 := HDq.out.dropPr
   have HD5 := Lib.hid hD5
   have ht5 := (Touch.of_below (L := fun k => k ∈ M.own) HBq.out (Nat.le_refl _)).trans (touch_set (fun k => k ∈ M.own) w3 ⟨M.g, 9, none⟩ (.pointer none) M.mem_g) fun _ _ h => h
   have HT5 := Lib.hid ht5
   clear hpr hak hD5 ht5
   go_wp2_with fail
   go_ret
   refine ⟨_, rfl, ?_⟩
   rw [HAK.out]
   exact ⟨M.dropPr, [], HD5.out, MsgsAt.none _ _, rfl, Aside.none _, ⟨rfl, rfl, rfl, rfl, fun n hn => .inl (DM.dropPr_own M n hn)⟩, HT5.out⟩
  | false =>
   have hpr : ¬ d.pr = some (m.seq, m.node) := of_decide_eq_false HH.out
   have k12 : w3.cell? ⟨M.g, 12, none⟩ = some M.ev := HDq.out.cell 12
   obtain ⟨oe, ce, hev⟩ := slAt_slice HDq.out.ers.at
   rw [hev] at k12
   have hel : d.er.length ≤ 16 := HOK.out.er
   have hix := indexEr_any (w.heap.size + 1) m.seq m.node oe ce d.er w3 (by rw [← hev]; exact HDq.out.ers.at) (by omega) (cell_of_row w3 _ 0 _ _ _ HRq.out) (cell_of_row w3 _ 1 _ _ _ HRq.out)
   have HIX := Lib.hid hix
   clear hix
   cases hf : d.er.findIdx? (Er.is m.seq m.node) with
   | none =>
    have hak : d.ack m.got = (d, []) := ack_none (m := m.got) hpr hf
    have HAK := Lib.hid hak
    rw [idxEr_none hf] at HIX
    clear hak hpr hf
    go_wp2_with fail
    refine HIX.out.mono ?_
    rintro e w4 ⟨rfl, hb4⟩
    have HB4 := Lib.hid (HBq.out.trans (hb4.mono HBq.out.size))
    clear hb4
    go_wp2_with fail
    go_ret
    refine ⟨_, rfl, ?_⟩
    rw [HAK.out]
    exact Stepped.same HD.out HB4.out
   | some i =>
    obtain ⟨hi, _, _⟩ := List.findIdx?_eq_some_iff_getElem.1 hf
    have hak : d.ack m.got = ({ d with er := d.er.eraseIdx i }, [d.send 2 d.er[i].frm d.er[i].seq d.er[i].node]) := ack_some (m := m.got) hpr hf hi
    have HAK := Lib.hid hak
    rw [idxEr_some hf] at HIX
    clear hak hpr hf
    go_wp2_with fail
    refine HIX.out.mono ?_
    rintro e w4 ⟨rfl, hb4⟩
    obtain ⟨g, rfl⟩ : ∃ g, oe = some ⟨g, 0, none⟩ := by
     rcases HDq.out.ers.2 with ⟨hv, hn⟩ | ⟨g', cap', cur, hv, _⟩
     ·omega
     ·rw [hv] at hev
      simp only [Value.slice.injEq] at hev
      exact ⟨g', hev.1.symm⟩
    have hD4 := HDq.out.below hb4
    have hO4 : Owns Er.cells 4 0 149 w4 (.slice (some ⟨g, 0, none⟩) d.er.length ce) d.er := by rw [← hev]; exact hD4.ers
    have j12 : w4.cell? ⟨M.g, 12, none⟩ = some (.slice (some ⟨g, 0, none⟩) d.er.length ce) := by rw [← hev]; exact hD4.cell 12
    have y0 := hO4.at.cell Er.cells_len (i := i) (c := 0) hi (by decide)
    have y1 := hO4.at.cell Er.cells_len (i := i) (c := 1) hi (by decide)
    have y2 := hO4.at.cell Er.cells_len (i := i) (c := 2) hi (by decide)
    have y3 := hO4.at.cell Er.cells_len (i := i) (c := 3) hi (by decide)
    simp only [Nat.zero_add] at y0 y1 y2 y3
    replace y0 : w4.cell? ⟨g, i * 4, none⟩ = some (.int .i64 d.er[i].num) := y0
    replace y1 : w4.cell? ⟨g, i * 4 + 1, none⟩ = some (.int .i64 d.er[i].node) := y1
    replace y2 : w4.cell? ⟨g, i * 4 + 2, none⟩ = some (.int .i64 d.er[i].frm) := y2
    replace y3 : w4.cell? ⟨g, i * 4 + 3, none⟩ = some (.int .i64 d.er[i].seq) := y3
    obtain ⟨⟨xn, xo, xf, xs⟩, hx⟩ : ∃ x, d.er[i] = x := ⟨_, rfl⟩
    rw [hx] at y0 y1 y2 y3 HAK
    dsimp only at y0 y1 y2 y3 HAK
    have hgl : g < w4.heap.size := World.block_lt_of_cell? w4 _ y0
    obtain ⟨w5, hw5⟩ : ∃ w5, w4.alloc (.cells #[.int .i64 xn, .int .i64 xo, .int .i64 xf, .int .i64 xs] 149) = w5 := ⟨_, rfl⟩
    have hb5 : Below w4.heap.size w4 w5 := by rw [← hw5]; exact (Below.refl _ _).alloc (Nat.le_refl _) _
    have hr5 : w5.heap[w4.heap.size]? = some (.cells #[.int .i64 xn, .int .i64 xo, .int .i64 xf, .int .i64 xs] 149) := by rw [← hw5]; exact heap_alloc_new w4 _
    have hD5 := hD4.below hb5
    have hO5 := hO4.below hb5 (Nat.le_refl _)
    have i12 : w5.cell? ⟨M.g, 12, none⟩ = some (.slice (some ⟨g, 0, none⟩) d.er.length ce) := by rw [← hev]; exact hD5.cell 12
    have hdl := deleteEr_any g ce i 0 d.er w5 hO5 hi (by omega)
    have hltz : (i : Int) < (d.er.length : Int) := by omega
    have hneg : ¬ (i : Int) < 0 := by omega
    have hwi : IntKind.i64.wrap ((i : Int) + 1) = ((i + 1 : Nat) : Int) := by rw [IntKind.wrap_i64]; omega
    have HW5 := Lib.hid hw5
    have HD5 := Lib.hid hD5
    have HR5 := Lib.hid hr5
    have HDL := Lib.hid hdl
    have HB5 := Lib.hid ((HBq.out.trans (hb4.mono HBq.out.size)).trans (hb5.mono (by have := hb4.size; have := HBq.out.size; omega)))
    have hs5 : w4.heap.size < w5.heap.size := (Array.getElem?_eq_some_iff.1 hr5).1
    have hs4 : w.heap.size ≤ w4.heap.size := by have := hb4.size; omega
    have hMl : M.g < w4.heap.size := hD4.lt
    have hwi2 : ((i + 1 : Nat) : Int) = (i : Int) + 1 := by omega
    rw [hwi2] at hwi HDL
    clear hwi2
    clear hD4 hD5 hO4 hO5 hw5 hr5 hdl hb4 hb5 HIX k12 HDq HRq HBq c9 z9 hx
    go_wp2_with fail
    rw [HW5.out]
    refine HDL.out.mono ?_
    rintro e w6 ⟨rfl, hO6, hg6⟩
    have hD7 := HD5.out.setEr hev hO6 hg6
    have hMg : M.g ≠ g := fun e => ((nod_ne HD5.out.nod).2.2.2.2.2.2.2.1 g (by rw [hev]; rfl)).1 e.symm
    have hMl5 : M.g < w5.heap.size := HD5.out.lt
    have z12 : w6.frozen? ⟨M.g, 12, none⟩ = false := by
     unfold World.frozen?
     rw [hg6.block M.g hMl5 (fun e => hMg (Option.some.inj e)), HD5.out.obj]
     simp
    have u12 : w6.cell? ⟨M.g, 12, none⟩ = some (.slice (some ⟨g, 0, none⟩) d.er.length ce) := (World.cell?_of_block (a := ⟨M.g, 12, none⟩) (hg6.block M.g hMl5 (fun e => hMg (Option.some.inj e)))).trans i12
    have hxg : w4.heap.size ≠ g := by omega
    have hr6 := (hg6.block w4.heap.size hs5 (fun e => hxg (Option.some.inj e))).trans HR5.out
    have hxM : w4.heap.size ≠ M.g := by omega
    have hr7 := (Below.heap_setCell w6 ⟨M.g, 12, none⟩ (.slice (some ⟨g, 0, none⟩) (d.er.length - 1) ce) w4.heap.size hxM).trans hr6
    have hT7 : Touch (fun k => k ∈ M.own) w (w6.setCell ⟨M.g, 12, none⟩ (.slice (some ⟨g, 0, none⟩) (d.er.length - 1) ce)) := ((Touch.of_below HB5.out (Nat.le_refl _)).trans (Touch.of_grown (L := fun k => k ∈ M.own) hg6 fun j hj => by
      obtain rfl := Option.some.inj hj
      exact M.mem_ev (by rw [hev]; rfl)) fun _ _ h => h).trans (touch_set (fun k => k ∈ M.own) w6 ⟨M.g, 12, none⟩ _ M.mem_g) fun _ _ h => h
    have hs7 : w4.heap.size < (w6.setCell ⟨M.g, 12, none⟩ (.slice (some ⟨g, 0, none⟩) (d.er.length - 1) ce)).heap.size := by have := hg6.size; simp only [World.setCell, Array.size_modify]; omega
    have v1 : w6.cell? ⟨w4.heap.size, 1, none⟩ = some (.int .i64 xo) := cell_of_row w6 _ 1 _ _ _ hr6
    have v2 : w6.cell? ⟨w4.heap.size, 2, none⟩ = some (.int .i64 xf) := cell_of_row w6 _ 2 _ _ _ hr6
    have v3 : w6.cell? ⟨w4.heap.size, 3, none⟩ = some (.int .i64 xs) := cell_of_row w6 _ 3 _ _ _ hr6
    have hMx : M.g ≠ w4.heap.size := fun e => hxM e.symm
    have hse := send_any { M with ev := .slice (some ⟨g, 0, none⟩) (d.er.length - 1) ce } { d with er := d.er.eraseIdx i } 2 xf xs xo _ hD7
    have HSE := Lib.hid hse
    clear hse
    have HD7 := Lib.hid hD7
    have HR7 := Lib.hid hr7
    have HT7 := Lib.hid hT7
    clear hD7 hr7 hT7 hr6 hg6 hO6 HDL HD5 HR5 HB5 i12 j12 y0 y1 y2 y3
    go_wp2_with fail
    generalize w6.setCell ⟨M.g, 12, none⟩ (.slice (some ⟨g, 0, none⟩) (d.er.length - 1) ce) = w7 at *
    refine HSE.out.mono ?_
    rintro e w8 ⟨o8, c8, rfl, ho8, hb8⟩
    have HO8 := Lib.hid ho8
    have HB8 := Lib.hid hb8
    clear ho8 hb8 HSE
    unfold sentV Det.send
    dsimp only
    go_wp2_with fail
    obtain ⟨m1, m2, m3⟩ := msgs_one (wc := w7) (B := w.heap.size) (by omega) HB8.out (d.send 2 xf xs xo) HO8.out (L := M.own) (fun k hk => by have := HD.out.own_lt k hk; omega)
    go_ret
    refine ⟨_, rfl, ?_⟩
    rw [HAK.out]
    refine ⟨{ M with ev := .slice (some ⟨g, 0, none⟩) (d.er.length - 1) ce }, [((⟨o8, (allT d.tab).length, c8⟩ : Hdr), d.send 2 xf xs xo)], HD7.out.below m3, m1, rfl, ?_, ?_, HT7.out.trans (Touch.of_below m3 (Nat.le_refl _)) fun _ _ h => h⟩
    ·rw [show ({ M with ev := .slice (some ⟨g, 0, none⟩) (d.er.length - 1) ce } : DM).own = M.own from by unfold DM.own; rw [hev]; rfl]
     exact m2
    ·refine ⟨rfl, rfl, rfl, rfl, fun k hk => .inl ?_⟩
     rw [show ({ M with ev := .slice (some ⟨g, 0, none⟩) (d.er.length - 1) ce } : DM).own = M.own from by unfold DM.own; rw [hev]; rfl] at hk
     exact hk
end Go.Proofs.YtejihgfigclppaaGreat
namespace Go.Proofs.YtejihgfigclppaaGreat
open Go.RowKit
set_option linter.unusedVariables false
def wpTail (P : Program) (ops : Array Oper) (Q : Exit → Act → World → Prop) : Nat → Nat → Act → World → Prop
  | 0, _, a, w => Q .normal a w
  | k + 1, i, a, w => wpOp P ops Q i (fun a2 w2 => wpTail P ops Q k (i + 1) a2 w2) a w
theorem Ag.mono {ds ds' : List Nat} {a a' : Act} (h : Ag ds a a') (hs : ∀ d ∈ ds, d ∈ ds') : Ag ds' a a' := ⟨h.1, h.2, fun d hd => h.3 d fun e => hd (hs d e)⟩
section
variable {P : Program} {ops : Array Oper} {Q : Exit → Act → World → Prop}
theorem step_skip {i : Nat} {o : Oper} {a : Act} {w w' : World} {K : Act → World → Prop} (hi : ops[i]? = some o) (hd : o.dst = none) (hg : o.guard = none)
    (hv : (execOp a.eval o).run P w = .ok .skip w') (h : K a w') : wpOp P ops Q i K a w := by
  unfold wpOp
  rw [hi]
  have hw : Region.wanted o (yielded ops a.tmps) = true := by simp [Region.wanted, hg]
  simp only [hw, if_true]
  refine .inl ?_
  unfold Oper.wp
  rw [hv]
  simp only [Oper.upon, hd]
  exact h
theorem tell_region_late {id : Nat} {act : Act} {w : World} (hm : P.follows .mixedOrders = true) (Fs : List (Nat × (Value → World → Prop))) (n k : Nat) (hfn : Fs.length = n) (hn : ops.size = n + 1 + k) (dn : Nat) (hnd : (dn :: Fs.map (·.1)).Nodup) (hsz : ∀ d ∈ dn :: Fs.map (·.1), d < act.tmps.size)
    (haf : afterOk .any ops = true) (Gs : Nat → Value → Prop) (PA : Value → World → Prop) (U : List Nat) (hmono : ∀ p ∈ Fs, Lasts p.2)
    (hstep : ∀ (i : Nat) (hi : i < Fs.length) (a : Act) (w' : World), Ag (Fs.map (·.1)) act a → Below w.heap.size w w' → (∀ (j : Nat) (hj : j < Fs.length), Needs ops i j → Fs[j].2 (a.eval (.tmp Fs[j].1)) w') → Leaves P ops Q i Fs[i].1 Fs[i].2 a w')
    (hFG : ∀ (j : Nat) (hj : j < Fs.length) v w', Fs[j].2 v w' → Gs j v)
    (hU : ∀ L : Nat → Bool, (∀ i j, L i = true → Needs ops i j → L j = true) → (∀ j, Needs ops n j → L j = true) → ∀ j, j < n → j ∉ U → L j = true)
    (happ : ∀ (a : Act) (w' : World), Ag (Fs.map (·.1)) act a → Below w.heap.size w w' → (∀ (j : Nat) (hj : j < Fs.length), j ∉ U → Fs[j].2 (a.eval (.tmp Fs[j].1)) w') → wpOp P ops Q n (fun a2 w2 => ∃ v, a2 = a.put (some dn) v ∧ PA v w2) a w')
    (hstep2 : ∀ (i : Nat) (hi : i < Fs.length), i ∈ U → ∀ (a : Act) (w' : World), Ag (dn :: Fs.map (·.1)) act a → wpOp P ops Q i (fun a2 w2 => ∃ v, a2 = a.put (some Fs[i].1) v ∧ w2 = w' ∧ Gs i v) a w')
    (htail : ∀ i, n < i → i < n + 1 + k → ∀ L : Nat → Bool, (∀ i j, L i = true → Needs ops i j → L j = true) → (∀ j, Needs ops i j → L j = true) → ∀ j, j < i → L j = true)
    (hend : ∀ (a : Act) (w' : World), Ag (dn :: Fs.map (·.1)) act a → (∀ (j : Nat) (hj : j < Fs.length), Gs j (a.eval (.tmp Fs[j].1))) → PA (a.eval (.tmp dn)) w' → wpTail P ops Q k (n + 1) a w') : (Code.region id ops true).wp P Q act w := by
  have hnd2 : (Fs.map (·.1)).Nodup := (List.nodup_cons.1 hnd).2
  have hdn : dn ∉ Fs.map (·.1) := (List.nodup_cons.1 hnd).1
  refine wp_region_inv hm (fun L a w' => L.size = n + 1 + k ∧ (∀ i j, L.getD i false = true → Needs ops i j → L.getD j false = true) ∧
    ((∃ t, t ≤ k ∧ (∀ j, j < n + 1 + t → L.getD j false = true) ∧ (∀ j, n + 1 + t ≤ j → L.getD j false = false) ∧ wpTail P ops Q (k - t) (n + 1 + t) a w') ∨
     ((∀ j, n < j → L.getD j false = false) ∧ L.getD n false = true ∧ (∃ j, j < n ∧ L.getD j false = false) ∧ Ag (dn :: Fs.map (·.1)) act a ∧ (∀ (j : Nat) (hj : j < Fs.length), L.getD j false = true → Gs j (a.eval (.tmp Fs[j].1))) ∧ PA (a.eval (.tmp dn)) w') ∨
     ((∀ j, n ≤ j → L.getD j false = false) ∧ Ag (Fs.map (·.1)) act a ∧ Below w.heap.size w w' ∧ ∀ (j : Nat) (hj : j < Fs.length), L.getD j false = true → Fs[j].2 (a.eval (.tmp Fs[j].1)) w'))) ?_ ?_ ?_
  · have hz : ∀ j, (Array.replicate ops.size false).getD j false = false := fun j => by
      by_cases hs : j < ops.size <;> simp [Array.getD_eq_getD_getElem?, hs]
    refine ⟨by rw [Array.size_replicate]; exact hn, (fun i j h => by rw [hz i] at h; cases h), .inr (.inr ⟨fun j _ => hz j, Ag.refl _ _, ⟨rfl, rfl, rfl, Nat.le_refl _, fun _ _ => rfl⟩, fun j hj h => ?_⟩)⟩
    rw [hz j] at h
    cases h
  · intro L a w' i hi hI
    obtain ⟨hL, hcl, hor⟩ := hI
    obtain ⟨hun, o0, ho0, hdep⟩ := mem_ready.1 hi
    have hlt : i < n + 1 + k := by rw [← hn]; exact (Array.getElem?_eq_some_iff.1 ho0).1
    have hdone : ∀ j, Needs ops i j → L.getD j false = true := by
      rintro j ⟨o, ho, e, he, hbd, rfl⟩
      rw [ho0] at ho
      obtain rfl := Option.some.inj ho
      exact hdep e he hbd
    have hun0 := unlisted_getD hun
    have hcl2 : ∀ i' j, (L.setIfInBounds i true).getD i' false = true → Needs ops i' j → (L.setIfInBounds i true).getD j false = true := fun i' j h hne => by
      by_cases e : j = i
      · rw [e]; exact getD_set_same (by omega)
      · rw [getD_set_ne false (fun e' => e e'.symm)]
        by_cases e2 : i' = i
        · rw [e2] at hne; exact hdone j hne
        · rw [getD_set_ne false (fun e' => e2 e'.symm)] at h; exact hcl i' j h hne
    have hall2 : n < i → ∀ j, j < i → L.getD j false = true := fun h j hj => htail i h hlt (fun j => L.getD j false) hcl hdone j hj
    have hset : ∀ j, j ≠ i → (L.setIfInBounds i true).getD j false = L.getD j false := fun j hj => getD_set_ne false (fun e => hj e.symm)
    have hseti : (L.setIfInBounds i true).getD i false = true := getD_set_same (by omega)
    rcases hor with ⟨t, ht, hlo, hhi, hQ⟩ | ⟨hhi, hLn, ⟨j0, hj0, hjf⟩, hag, hG, hPA⟩ | ⟨hhi, hag, hb, hF⟩
    · -- the tail
      have hi1 : i = n + 1 + t := by
        rcases Nat.lt_trichotomy i (n + 1 + t) with h | h | h
        · rw [hlo i h] at hun0; cases hun0
        · exact h
        · have := hall2 (by omega) (n + 1 + t) h
          rw [hhi _ (Nat.le_refl _)] at this
          cases this
      subst hi1
      obtain ⟨r, hr⟩ : ∃ r, k - t = r + 1 := ⟨k - t - 1, by omega⟩
      rw [hr] at hQ
      refine wpOp_mono (fun a2 w2 h2 => ⟨by simpa using hL, hcl2, .inl ⟨t + 1, by omega, fun j hj => ?_, fun j hj => ?_, ?_⟩⟩) hQ
      · by_cases e : j = n + 1 + t
        · rw [e]; exact hseti
        · rw [hset j e]; exact hlo j (by omega)
      · rw [hset j (by omega)]; exact hhi j (by omega)
      · rw [show k - (t + 1) = r by omega]
        exact h2
    · -- behind the append
      have hin : i < n := by
        rcases Nat.lt_trichotomy i n with h | h | h
        · exact h
        · rw [h, hLn] at hun0; cases hun0
        · have := hall2 h j0 (by omega)
          rw [hjf] at this; cases this
      have hiU : i ∈ U := by
        by_cases hu : i ∈ U
        · exact hu
        · have := hU (fun j => L.getD j false) hcl (fun j hj => hcl n j hLn hj) i hin hu
          rw [hun0] at this; cases this
      have hif : i < Fs.length := by omega
      have h := hstep2 i hif hiU a w' hag
      have hdi : Fs[i].1 ∈ dn :: Fs.map (·.1) := List.mem_cons_of_mem _ (List.mem_map.2 ⟨Fs[i], List.getElem_mem _, rfl⟩)
      refine wpOp_mono (fun a2 w2 h2 => ?_) h
      obtain ⟨v, rfl, rfl, hv⟩ := h2
      have hG2 : ∀ (j : Nat) (hj : j < Fs.length), (L.setIfInBounds i true).getD j false = true → Gs j ((a.put (some Fs[i].1) v).eval (.tmp Fs[j].1)) := fun j hj hLj => by
        by_cases hij : j = i
        · subst hij
          rw [eval_put_same v (by rw [hag.size]; exact hsz _ hdi)]
          exact hv
        · have hne : Fs[i].1 ≠ Fs[j].1 := by
            intro e
            have h1 := (List.getElem_inj (i := i) (j := j) (h₀ := by simpa using hif) (h₁ := by simpa using hj) hnd2).1 (by simpa using e)
            exact hij h1.symm
          rw [eval_put_ne v hne]
          rw [hset j hij] at hLj
          exact hG j hj hLj
      have hPA2 : PA ((a.put (some Fs[i].1) v).eval (.tmp dn)) w2 := by
        rw [eval_put_ne v (fun e => hdn (by rw [← e]; exact List.mem_map.2 ⟨Fs[i], List.getElem_mem _, rfl⟩))]
        exact hPA
      by_cases hm : ∃ j, j < n ∧ (L.setIfInBounds i true).getD j false = false
      · exact ⟨by simpa using hL, hcl2, .inr (.inl ⟨fun j hj => by rw [hset j (by omega)]; exact hhi j hj, by rw [hset n (by omega)]; exact hLn, hm, hag.put hdi v, hG2, hPA2⟩)⟩
      · have hm2 : ∀ j, j < n → (L.setIfInBounds i true).getD j false = true := fun j hj => by
          cases e : (L.setIfInBounds i true).getD j false with
          | true => rfl
          | false => exact absurd ⟨j, hj, e⟩ hm
        have he := hend _ w2 (hag.put hdi v) (fun j hj => hG2 j hj (hm2 j (by omega))) hPA2
        exact ⟨by simpa using hL, hcl2, .inl ⟨0, Nat.zero_le _, fun j hj => by
          by_cases e : j = n
          · rw [e, hset n (by omega)]; exact hLn
          · exact hm2 j (by omega), fun j hj => by rw [hset j (by omega)]; exact hhi j (by omega), he⟩⟩
    · -- ahead of it
      by_cases e : i = n
      · subst e
        have hallU := hU (fun j => L.getD j false) hcl hdone
        have h := happ a w' hag hb fun j hj hu => hF j hj (hallU j (by omega) hu)
        have hdi : dn ∈ dn :: Fs.map (·.1) := List.mem_cons_self
        refine wpOp_mono (fun a2 w2 h2 => ?_) h
        obtain ⟨v, rfl, hv⟩ := h2
        have hag2 : Ag (dn :: Fs.map (·.1)) act (a.put (some dn) v) := (Ag.mono hag (fun d hd => List.mem_cons_of_mem _ hd)).put hdi v
        have hPA2 : PA ((a.put (some dn) v).eval (.tmp dn)) w2 := by
          rw [eval_put_same v (by rw [hag.size]; exact hsz _ hdi)]
          exact hv
        have hG2 : ∀ (j : Nat) (hj : j < Fs.length), L.getD j false = true → Gs j ((a.put (some dn) v).eval (.tmp Fs[j].1)) := fun j hj hLj => by
          rw [eval_put_ne v (fun e => hdn (by rw [e]; exact List.mem_map.2 ⟨Fs[j], List.getElem_mem _, rfl⟩))]
          exact hFG j hj _ _ (hF j hj hLj)
        by_cases hm : ∃ j, j < i ∧ L.getD j false = false
        · obtain ⟨j, hj, hjf⟩ := hm
          exact ⟨by simpa using hL, hcl2, .inr (.inl ⟨fun j hj => by rw [hset j (by omega)]; exact hhi j (by omega), hseti, ⟨j, hj, by rw [hset j (by omega)]; exact hjf⟩, hag2, fun j hj hLj => hG2 j hj (by rw [hset j (by omega)] at hLj; exact hLj), hPA2⟩)⟩
        · have hm2 : ∀ j, j < i → L.getD j false = true := fun j hj => by
            cases e : L.getD j false with
            | true => rfl
            | false => exact absurd ⟨j, hj, e⟩ hm
          have he := hend _ w2 hag2 (fun j hj => hG2 j hj (hm2 j (by omega))) hPA2
          exact ⟨by simpa using hL, hcl2, .inl ⟨0, Nat.zero_le _, fun j hj => by
            by_cases e : j = i
            · rw [e]; exact hseti
            · rw [hset j e]; exact hm2 j (by omega), fun j hj => by rw [hset j (by omega)]; exact hhi j (by omega), he⟩⟩
      · have hin : i < n := by
          rcases Nat.lt_trichotomy i n with h | h | h
          · exact h
          · exact absurd h e
          · have := hall2 h n h
            rw [hhi n (Nat.le_refl _)] at this; cases this
        have hif : i < Fs.length := by omega
        have h := hstep i hif a w' hag hb (fun j hj hne => hF j hj (hdone j hne))
        have hdi : Fs[i].1 ∈ Fs.map (·.1) := List.mem_map.2 ⟨Fs[i], List.getElem_mem _, rfl⟩
        refine wpOp_mono (fun a2 w2 h2 => ?_) h
        obtain ⟨v, rfl, hb2, hv⟩ := h2
        refine ⟨by simpa using hL, hcl2, .inr (.inr ⟨fun j hj => by rw [hset j (by omega)]; exact hhi j hj, hag.put hdi v, hb.trans (hb2.mono hb.size), fun j hj hLj => ?_⟩)⟩
        by_cases hij : j = i
        · subst hij
          rw [eval_put_same v (by rw [hag.size]; exact hsz _ (List.mem_cons_of_mem _ hdi))]
          exact hv
        · have hne : Fs[i].1 ≠ Fs[j].1 := by
            intro e
            have h1 := (List.getElem_inj (i := i) (j := j) (h₀ := by simpa using hif) (h₁ := by simpa using hj) hnd2).1 (by simpa using e)
            exact hij h1.symm
          rw [eval_put_ne v hne]
          rw [hset j hij] at hLj
          exact hmono _ (List.getElem_mem _) _ _ _ hb2 (hF j hj hLj)
  · intro L a w' hr hI
    obtain ⟨hL, _, hor⟩ := hI
    have hlist := all_listed_b hL hn haf hr
    rcases hor with ⟨t, ht, hlo, hhi, hQ⟩ | ⟨hhi, hLn, ⟨j0, hj0, hjf⟩, _⟩ | ⟨hhi, _⟩
    · have htk : t = k := by
        rcases Nat.lt_or_ge t k with h | h
        · have := hhi (n + 1 + t) (Nat.le_refl _)
          rw [hlist (n + 1 + t) (by omega)] at this; cases this
        · omega
      subst htk
      rw [Nat.sub_self] at hQ
      exact hQ
    · rw [hlist j0 (by omega)] at hjf; cases hjf
    · have := hhi n (Nat.le_refl _)
      rw [hlist n (by omega)] at this; cases this
end
end Go.Proofs.YtejihgfigclppaaGreat
