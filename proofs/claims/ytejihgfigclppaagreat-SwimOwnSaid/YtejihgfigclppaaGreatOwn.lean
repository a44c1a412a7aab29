/-
  The law SwimOwn walked.
-/
import Derived.Test.YtejihgfigclppaaGreatMGreat17
import Derived.Test.YtejihgfigclppaaGreatMLaw20b
import Derived.Test.YtejihgfigclppaaGreatMMem17
namespace Go.Proofs.YtejihgfigclppaaGreat
open Go.Shelf Go.RowKit Go.Lib Go.Sort
set_option linter.unusedVariables false
set_option linter.unusedSimpArgs false
/-- behind a step: the detector, and what is sent -/
def OwnOut (B : Nat) (w1 : World) (gd : Nat) (self : Int) (i : Nat) (lf : Bool) (was : Int) (v : Value) (wx : World) : Prop := ∃ d' M ps, M.g = gd ∧ OwnStep self i lf was d' (ps.map (·.2)) ∧ DetAt wx M d' ∧ (∀ k ∈ M.own, B ≤ k) ∧ MsgsAt B wx v ps ∧ Below B w1 wx
theorem OwnOut.of_stepped {B : Nat} {w1 : World} {self : Int} {i : Nat} {lf : Bool} {was : Int} {v : Value} {wr wx : World} {M : DM} {d' : Det} {out : List Sent} (hB : Below B w1 wr) (hs : B ≤ w1.heap.size) (hO : ∀ k ∈ M.own, B ≤ k) (hS : OwnStep self i lf was d' out) (h : Stepped M d' out wr v wx) : OwnOut B w1 M.g self i lf was v wx := by
  obtain ⟨M', ps, a, b, c, e, f, g⟩ := h
  have h1 : B ≤ wr.heap.size := Nat.le_trans hs hB.size
  exact ⟨d', M', ps, f.g, by rw [c]; exact hS, a, fun k hk => (f.own k hk).elim (hO k) fun h => by omega, b.lower h1, hB.trans (g.below h1 hO)⟩
theorem OwnOut.of_same {B : Nat} {w1 : World} {self : Int} {i : Nat} {lf : Bool} {was : Int} {wr wx : World} {M : DM} {d : Det} (hB : Below B w1 wr) (hs : B ≤ w1.heap.size) (hO : ∀ k ∈ M.own, B ≤ k) (hS : OwnStep self i lf was d []) (h : DetAt wr M d) (hb : Below wr.heap.size wr wx) : OwnOut B w1 M.g self i lf was (.slice none 0 0) wx :=
  ⟨d, M, [], rfl, hS, h.below hb, hO, MsgsAt.none _ _, hB.trans (hb.mono (Nat.le_trans hs hB.size))⟩
theorem OwnOut.below {B : Nat} {w1 : World} {gd : Nat} {self : Int} {i : Nat} {lf : Bool} {was : Int} {v : Value} {wx wy : World} (h : OwnOut B w1 gd self i lf was v wx) (hs : B ≤ w1.heap.size) (hb : Below wx.heap.size wx wy) : OwnOut B w1 gd self i lf was v wy := by
  obtain ⟨d', M, ps, a, b, c, e, f, g⟩ := h
  exact ⟨d', M, ps, a, b, c.below hb, e, f.below hb (Nat.le_refl _), g.trans (hb.mono (Nat.le_trans hs g.size))⟩
set_option maxRecDepth 100000 in
set_option maxHeartbeats 32000000 in
theorem own_any (self inc : Int) (c : DConf) (seed : Int) (oa : Option Addr) (cap : Nat) (l : List SOp) (w : World) (h : SOpsAt w (.slice oa l.length cap) l) (hl : l.length ≤ 1099511627776) (hf : ∀ o ∈ l, o.m.fits) :
    Calls Tryz.prog 6 #[.agg #[.int .i64 self, .int .i64 inc, .int .i64 c.tout, .int .i64 c.ind, .int .i64 c.gr, .int .u64 seed], .slice oa l.length cap] w fun e w' => e = .returned (.bool true) ∧ Below w.heap.size w w' := by
  have hp : Tryz.prog.follows .mixedOrders = true := by kernel_rfl
  obtain ⟨w1, hw1⟩ : ∃ w1, w.alloc (.cells #[.int .i64 self, .int .i64 inc, .int .i64 c.tout, .int .i64 c.ind, .int .i64 c.gr, .int .u64 seed] 57) = w1 := ⟨_, rfl⟩
  have hb1 : Below w.heap.size w w1 := by rw [← hw1]; exact (Below.refl _ _).alloc (Nat.le_refl _) _
  have hr1 : w1.heap[w.heap.size]? = some (.cells #[.int .i64 self, .int .i64 inc, .int .i64 c.tout, .int .i64 c.ind, .int .i64 c.gr, .int .u64 seed] 57) := by rw [← hw1]; exact heap_alloc_new w _
  have hml : w.heap.size < w1.heap.size := (Array.getElem?_eq_some_iff.1 hr1).1
  have HS1 := Lib.hid (h.below hb1 (Nat.le_refl _))
  have HF := Lib.hid hf
  have HB1 := Lib.hid hb1
  have HR1 := Lib.hid hr1
  have HW1 := Lib.hid hw1
  have HAL := Lib.hid (alive20_any w1)
  clear hb1 hr1 hw1 h hf
  go_enter Tryz.func6, Tryz.ntmps6
  go_wp2_with fail
  rw [HW1.out]
  refine HAL.out.mono ?_
  rintro e w2 ⟨rfl, hb2⟩
  have hs2 := HS1.out.below hb2 (Nat.le_refl _)
  have HGR := Lib.hid (great20_any oa cap l w2 hs2 hl HF.out)
  have HB2 := Lib.hid hb2
  clear hb2 hs2 HAL HW1
  go_wp2_with fail
  refine HGR.out.mono ?_
  rintro e w3 ⟨hsay, hb3⟩
  have HB3 := Lib.hid (HB2.out.trans (hb3.mono HB2.out.size))
  clear hb3 HGR HB2
  rcases hsay with rfl | ⟨rfl, hng⟩
  · go_wp2_with fail
    go_ret
    exact ⟨rfl, HB1.out.trans (HB3.out.mono HB1.out.size)⟩
  have hl200 : l.length ≤ 200 := by
    by_cases e : 200 < l.length
    · exact absurd (.inr e) hng
    · omega
  have HNG : Hid (∀ o ∈ l, ¬ o.m.great) := fun o ho hg => hng (.inl ⟨o, ho, hg⟩)
  have hr3 := (HB3.out.block _ hml).trans HR1.out
  have cc := fun k => cell_of_row w3 w.heap.size k _ _ _ hr3
  have n0 : w3.cell? ⟨w.heap.size, 0, none⟩ = some (.int .i64 self) := cc 0
  have n1 : w3.cell? ⟨w.heap.size, 1, none⟩ = some (.int .i64 inc) := cc 1
  have n2 : w3.cell? ⟨w.heap.size, 2, none⟩ = some (.int .i64 c.tout) := cc 2
  have n3 : w3.cell? ⟨w.heap.size, 3, none⟩ = some (.int .i64 c.ind) := cc 3
  have n4 : w3.cell? ⟨w.heap.size, 4, none⟩ = some (.int .i64 c.gr) := cc 4
  have n5 : w3.cell? ⟨w.heap.size, 5, none⟩ = some (.int .u64 seed) := cc 5
  clear cc hr3 hng
  by_cases hq : Mb.may ⟨self, 1, inc⟩ ∧ c.right
  · have hmd := made_good self inc c seed w3 hq.1 hq.2
    have hD0 : OwnD self 0 false (Det.new self inc c seed) := OwnD.new hq.1 hq.2
    have HMD := Lib.hid hmd
    have HD0 := Lib.hid hD0
    clear hmd hD0 hq
    go_wp2_with fail
    refine HMD.out.mono ?_
    rintro e w4 ⟨M0, rfl, hDA, hO, hb4⟩
    have HDA := Lib.hid hDA
    have hs3 := HB3.out.size
    have HO : Hid (∀ k ∈ M0.own, w1.heap.size ≤ k) := fun k hk => by have := hO k hk; omega
    have HB4 := Lib.hid (HB3.out.trans (hb4.mono HB3.out.size))
    clear hDA hO hb4 HMD HB3 n0 n1 n2 n3 n4 n5 hs3
    generalize Det.new self inc c seed = d0 at *
    go_wp2_with fail
    go_loopg [7, 9, 10, 11, 12, 14, 16, 30] l.length (fun gk s7 s9 s10 s11 s12 s14 s16 s30 wr => ∃ (i : Nat) (lf : Bool) (d : Det) (M : DM), s7 = .bool lf ∧ s30 = .int .i64 i ∧ i ≤ l.length ∧ l.length - i ≤ gk ∧ M.g = M0.g ∧ Hid (OwnD self i lf d) ∧ Hid (DetAt wr M d) ∧ Hid (∀ k ∈ M.own, w1.heap.size ≤ k) ∧ Hid (Below w1.heap.size w1 wr))
    case atStart => exact ⟨0, false, d0, M0, rfl, rfl, Nat.zero_le _, Nat.le_refl _, rfl, HD0.out, HDA.out, HO.out, HB4.out⟩
    case round =>
      obtain ⟨i, lf, d, M, rfl, rfl, hi, hgk, hgM, HD, HA, HOW, HB⟩ := hrel
      clear HD0 HDA HO HB4
      by_cases hlt : i < l.length
      · have hltz : (i : Int) < (l.length : Int) := by omega
        have hsr := HS1.out.below HB.out (Nat.le_refl _)
        have hsl := hsr.row
        obtain ⟨bo, off, hbo⟩ := hsl.plain SOp.cells_len (by decide) (by intro e; rw [e] at hlt; exact absurd hlt (by simp))
        subst hbo
        have hld := sop_load hsl hlt
        have hmem : l[i] ∈ l := List.getElem_mem hlt
        have hmi := hsr.ms _ hmem
        have hm1 := HS1.out.ms _ hmem
        have hsm := Msg.small_of (HNG.out _ hmem)
        have hfi := HF.out _ hmem
        generalize l[i] = o at *
        clear hmem hsl hsr hfi
        obtain ⟨kind, m⟩ := o
        obtain ⟨ma, mn, mc, e1⟩ : ∃ a n c, m.hm.val = .slice a n c := ⟨m.hm.a, m.hm.n, m.hm.c, rfl⟩
        obtain ⟨ea, en, ec, e2⟩ : ∃ a n c, m.he.val = .slice a n c := ⟨m.he.a, m.he.n, m.he.c, rfl⟩
        obtain ⟨sa, sn, sc, e3⟩ : ∃ a n c, m.hs.val = .slice a n c := ⟨m.hs.a, m.hs.n, m.hs.c, rfl⟩
        replace hld : Sem.run Tryz.prog (loadCellsFrom ⟨bo, off + i * 17, none⟩ 0 17 #[]) wr = .ok #[.int .i64 kind, .int .i64 m.kind, .int .i64 m.frm, .int .i64 m.to_, .int .i64 m.seq, .int .i64 m.node, .int .i64 (m.u 0), .int .i64 (m.u 1), .int .i64 (m.u 2), .int .i64 (m.u 3), .int .i64 (m.u 4), .int .i64 (m.u 5), .int .i64 (m.u 6), .int .i64 (m.u 7), m.hm.val, m.he.val, m.hs.val] wr := hld
        rw [e1, e2, e3] at hld
        obtain ⟨W, hW⟩ : ∃ W, wr.alloc (.cells #[.int .i64 kind, .int .i64 m.kind, .int .i64 m.frm, .int .i64 m.to_, .int .i64 m.seq, .int .i64 m.node, .int .i64 (m.u 0), .int .i64 (m.u 1), .int .i64 (m.u 2), .int .i64 (m.u 3), .int .i64 (m.u 4), .int .i64 (m.u 5), .int .i64 (m.u 6), .int .i64 (m.u 7), .slice ma mn mc, .slice ea en ec, .slice sa sn sc] 62) = W := ⟨_, rfl⟩
        have hbW : Below wr.heap.size wr W := by rw [← hW]; exact (Below.refl _ _).alloc (Nat.le_refl _) _
        have hrW : W.heap[wr.heap.size]? = some (.cells (SOp.cells ⟨kind, m⟩).toArray 62) := by rw [← hW, ← e1, ← e2, ← e3]; exact heap_alloc_new wr _
        have hwlt : wr.heap.size < W.heap.size := (Array.getElem?_eq_some_iff.1 hrW).1
        have hDW := HA.out.below hbW
        have hlo := HA.out.own_lt
        have hinc := inc_any M d W hDW
        rw [hgM] at hinc
        have hmW := hmi.below hbW (Nat.le_refl _)
        have hBW := HB.out.trans (hbW.mono HB.out.size)
        have o0 : W.cell? ⟨wr.heap.size, 0, none⟩ = some (.int .i64 kind) := cell_of_row W _ 0 _ _ _ hrW
        have hms : m.ms = [] ∨ ∀ b, m.hs.val.ownBlock = some b → b ∉ M.own := by
          by_cases e : m.ms = []
          · exact .inl e
          · refine .inr fun b hb hm => ?_
            have h1 := hm1.ms.lt Mb.cells_len (by decide) e b hb
            have h2 := HOW.out b hm
            omega
        have HE := Lib.hid (And.intro e1 (And.intro e2 e3))
        have HMS := Lib.hid hms
        have HLO := Lib.hid hlo
        have HLD := Lib.hid hld
        have HWW := Lib.hid hW
        have HRW := Lib.hid hrW
        have HDW := Lib.hid hDW
        have HINC := Lib.hid hinc
        have HMW := Lib.hid hmW
        have HBW := Lib.hid hBW
        have HSM := Lib.hid hsm
        clear e1 e2 e3 hlo hms hld hW hbW hrW hDW hinc hmW hBW hsm hmi hm1 HA HB
        go_wp2_with (refine wpList_loadAgg _ rfl 62 _ rfl 17 (by kernel_rfl) (by kernel_rfl) ⟨bo, off + i * 17, none⟩ rfl _ HLD.out ?_)
        rw [HWW.out]
        refine HINC.out.mono ?_
        rintro e w5 ⟨rfl, rfl⟩
        clear HLD HWW HINC
        go_upto_region 15 with fail
        go_cut [37] (fun s37 wx => s37 = .int .i64 kind ∧ wx = w5)
        case first =>
          go_wp2_with fail
          go_meet
          exact ⟨rfl, rfl⟩
        obtain ⟨rfl, rfl⟩ := hcut
        go_step
        go_cut [7, 11] (fun s7 s11 wx => ∃ lf', s7 = .bool lf' ∧ Hid (OwnOut w1.heap.size w1 M0.g self (i + 1) lf' d.inc s11 wx))
        case first =>
          have hi1000 : i < 1000 := by omega
          have hcl : d.clock < 1000000 := by have := HD.out.clock; omega
          have hnu : d.num < 1000000 := by have := HD.out.num; omega
          by_cases k1 : kind = 1
          · as_aux_lemma =>
            subst k1
            have htk := tick_stepped M d HD.out.ok hcl hnu wc HDW.out
            rw [hgM] at htk
            have HTK := Lib.hid htk
            have HOS := Lib.hid (HD.out.tick hi1000)
            clear htk hcl hnu
            go_wp2_with fail
            refine HTK.out.mono ?_
            rintro e w6 ⟨v, rfl, hst⟩
            have hx := OwnOut.of_stepped HBW.out (Nat.le_refl _) HOW.out HOS.out hst
            rw [hgM] at hx
            have HX := Lib.hid hx
            clear hx hst HTK
            go_wp2_with fail
            go_meet
            exact ⟨lf, rfl, HX.out⟩
          · by_cases k2 : kind = 2
            · subst k2
              have hml2 := sopMsg_load HRW.out
              replace hml2 : Sem.run Tryz.prog (loadCellsFrom ⟨wr.heap.size, 1, none⟩ 0 16 #[]) wc = .ok #[.int .i64 m.kind, .int .i64 m.frm, .int .i64 m.to_, .int .i64 m.seq, .int .i64 m.node, .int .i64 (m.u 0), .int .i64 (m.u 1), .int .i64 (m.u 2), .int .i64 (m.u 3), .int .i64 (m.u 4), .int .i64 (m.u 5), .int .i64 (m.u 6), .int .i64 (m.u 7), m.hm.val, m.he.val, m.hs.val] wc := hml2
              have hon := on_any M d HD.out.ok hnu m HSM.out wc HMW.out HMS.out HDW.out
              obtain ⟨e1, e2, e3⟩ := HE.out
              rw [e1, e2, e3] at hml2 hon
              rw [hgM] at hon
              clear e1 e2 e3
              have HML := Lib.hid hml2
              have HON := Lib.hid hon
              clear hml2 hon hcl hnu k1
              go_wp2_with (refine wpList_loadAgg _ rfl 42 _ rfl 16 (by kernel_rfl) (by kernel_rfl) ⟨wr.heap.size, 1, none⟩ rfl _ HML.out ?_)
              refine HON.out.mono ?_
              rintro e w6 ⟨hbd, hlv, htk⟩
              clear HML HON
              cases hbad : badOn d m with
              | true =>
                as_aux_lemma =>
                obtain ⟨rfl, hb6⟩ := hbd hbad
                have hx := OwnOut.of_same HBW.out (Nat.le_refl _) HOW.out HD.out.stay HDW.out hb6
                rw [hgM] at hx
                have HX := Lib.hid hx
                clear hx hbd hlv htk hbad hb6
                go_wp2_with fail
                go_big_quiet (fail)
                go_wp2_with fail
                go_meet
                exact ⟨lf, rfl, HX.out.below (Nat.le_refl _) (below_drewN _ _)⟩
              | false =>
                as_aux_lemma =>
                cases hlf : d.left with
                | true =>
                  as_aux_lemma =>
                  obtain ⟨rfl, hb6⟩ := hlv hbad hlf
                  have hx := OwnOut.of_same HBW.out (Nat.le_refl _) HOW.out HD.out.stay HDW.out hb6
                  rw [hgM] at hx
                  have HX := Lib.hid hx
                  clear hx hbd hlv htk hbad hb6 hlf
                  go_wp2_with fail
                  go_big_quiet (fail)
                  go_wp2_with fail
                  go_meet
                  exact ⟨lf, rfl, HX.out.below (Nat.le_refl _) (below_drewN _ _)⟩
                | false =>
                  as_aux_lemma =>
                  obtain ⟨v, rfl, hst⟩ := htk hbad hlf
                  have hx := OwnOut.of_stepped HBW.out (Nat.le_refl _) HOW.out (HD.out.on hi1000 m.got (gotOk_of hbad)) hst
                  rw [hgM] at hx
                  obtain ⟨M', ps, hD', hM', hP', hA', hN', hT'⟩ := hst
                  have hnm : wr.heap.size ∉ M.own := fun hm => absurd (HLO.out _ hm) (Nat.lt_irrefl _)
                  obtain ⟨kr, _, _⟩ := aside_kept hT' hN' hwlt hnm
                  have hr6 := kr.trans HRW.out
                  have q1 : w6.cell? ⟨wr.heap.size, 1, none⟩ = some (.int .i64 m.kind) := cell_of_row w6 _ 1 _ _ _ hr6
                  have q2 : w6.cell? ⟨wr.heap.size, 2, none⟩ = some (.int .i64 m.frm) := cell_of_row w6 _ 2 _ _ _ hr6
                  have q4 : w6.cell? ⟨wr.heap.size, 4, none⟩ = some (.int .i64 m.seq) := cell_of_row w6 _ 4 _ _ _ hr6
                  have hb6 : Below w1.heap.size w1 w6 := by obtain ⟨_, _, _, _, _, _, _, _, g⟩ := hx; exact g
                  have n0 : w6.cell? ⟨w.heap.size, 0, none⟩ = some (.int .i64 self) := cell_of_row w6 _ 0 _ _ _ ((hb6.block _ hml).trans HR1.out)
                  have HX := Lib.hid hx
                  by_cases hk : m.kind = 1
                  · as_aux_lemma =>
                    obtain ⟨ms, hon⟩ := on_ping d m.got hk
                    obtain ⟨g, cg, hd, rfl, _, _, _, _, hcg⟩ := msg_one hM' (hP'.trans hon)
                    have a0 : w6.cell? ⟨g, 0, none⟩ = some (.int .i64 2) := hcg 0 (by decide)
                    have a2 : w6.cell? ⟨g, 2, none⟩ = some (.int .i64 m.frm) := hcg 2 (by decide)
                    have a3 : w6.cell? ⟨g, 3, none⟩ = some (.int .i64 m.seq) := hcg 3 (by decide)
                    have a4 : w6.cell? ⟨g, 4, none⟩ = some (.int .i64 self) := by rw [← HD.out.self]; exact hcg 4 (by decide)
                    rw [hk] at q1
                    clear hx hbd hlv htk hbad hb6 hlf hD' hM' hP' hA' hN' hT' kr hr6 hnm hon hcg hk
                    go_wp2_with fail
                    go_big_quiet (fail)
                    go_wp2_with fail
                    go_meet
                    exact ⟨lf, rfl, HX.out.below (Nat.le_refl _) (below_drewN _ _)⟩
                  · as_aux_lemma =>
                    have hkb : (m.kind == 1) = false := by simpa using hk
                    clear hx hbd hlv htk hbad hb6 hlf hD' hM' hP' hA' hN' hT' kr hr6 hnm hk
                    go_wp2_with fail
                    go_big_quiet (fail)
                    go_wp2_with fail
                    go_meet
                    exact ⟨lf, rfl, HX.out.below (Nat.le_refl _) (below_drewN _ _)⟩
            · by_cases k3 : kind = 3
              · subst k3
                clear k1 k2 hcl hnu
                cases hlf : d.left with
                | true =>
                  as_aux_lemma =>
                  have hlv := leave_left M d hlf wc HDW.out
                  rw [hgM] at hlv
                  have hx := OwnOut.of_same HBW.out (Nat.le_refl _) HOW.out HD.out.stay HDW.out (Below.refl _ _)
                  rw [hgM, show lf = true from HD.out.left.symm.trans hlf] at hx
                  have HX := Lib.hid hx
                  have HLV := Lib.hid hlv
                  clear hx hlv hlf
                  go_wp2_with fail
                  refine HLV.out.mono ?_
                  rintro e w6 ⟨rfl, rfl⟩
                  go_wp2_with fail
                  go_meet
                  exact ⟨true, rfl, HX.out⟩
                | false =>
                  as_aux_lemma =>
                  have hlv := leave_any M d HD.out.ok hlf wc HDW.out
                  rw [hgM] at hlv
                  have HLV := Lib.hid hlv
                  clear hlv hlf
                  go_wp2_with fail
                  refine HLV.out.mono ?_
                  rintro e w6 ⟨v, rfl, hst⟩
                  have hx := OwnOut.of_stepped HBW.out (Nat.le_refl _) HOW.out HD.out.leave hst
                  rw [hgM] at hx
                  have HX := Lib.hid hx
                  clear hx hst HLV
                  go_wp2_with fail
                  go_meet
                  exact ⟨true, rfl, HX.out⟩
              · as_aux_lemma =>
                have b1 : (kind == 1) = false := by simpa using k1
                have b2 : (kind == 2) = false := by simpa using k2
                have b3 : (kind == 3) = false := by simpa using k3
                have hx := OwnOut.of_same HBW.out (Nat.le_refl _) HOW.out HD.out.stay HDW.out (Below.refl _ _)
                rw [hgM] at hx
                have HX := Lib.hid hx
                clear hx hcl hnu k1 k2 k3
                go_wp2_with fail
                go_meet
                exact ⟨lf, rfl, HX.out⟩
        case rest =>
          as_aux_lemma =>
          obtain ⟨lf', rfl, HX⟩ := hcut
          obtain ⟨d', M', ps, hgM', hOS, hD', hO', hM', hB'⟩ := HX.out
          obtain ⟨ox, cx, rfl⟩ := slAt_slice hM'.1.at
          have hinc' := inc_any M' d' wc hD'
          rw [hgM'] at hinc'
          have hle : ¬ d'.inc < d.inc := by have := hOS.inc; omega
          have hrc := (hB'.block _ hml).trans HR1.out
          have HOS := Lib.hid hOS
          have HDC := Lib.hid hD'
          have HOC := Lib.hid hO'
          have HMC := Lib.hid hM'
          have HBC := Lib.hid hB'
          have HRC := Lib.hid hrc
          have HINC := Lib.hid hinc'
          have hmc : w.heap.size < wc.heap.size := Nat.lt_of_lt_of_le hml hB'.size
          have hpl : ps.length ≤ 9223372036854775807 := by
            rcases hM'.1.2 with ⟨_, e⟩ | ⟨g, cap, cur, hv, hb, hh, hc, hm, hs, ht⟩
            · omega
            · have : maxLen = 9223372036854775807 := rfl
              omega
          clear hOS hD' hO' hM' hB' hrc hinc' HX HMS HRW HDW HMW HBW HSM HLO HD HOW hgM o0
          go_wp2_with fail
          refine HINC.out.mono ?_
          rintro e w7 ⟨rfl, rfl⟩
          clear HINC
          go_wp2_with fail
          go_loopg [14, 113] ps.length (fun gk s14 s113 wr => ∃ (j : Nat), s113 = .int .i64 j ∧ j ≤ ps.length ∧ ps.length - j ≤ gk ∧ Hid (Below w7.heap.size w7 wr))
          case atStart => exact ⟨0, rfl, Nat.zero_le _, Nat.le_refl _, Below.refl _ _⟩
          case round =>
            obtain ⟨j, rfl, hj, hgk2, HBJ⟩ := hrel
            by_cases hjl : j < ps.length
            · as_aux_lemma =>
              have hjz : (j : Int) < (ps.length : Int) := by omega
              have hMj := HMC.out.below HBJ.out (Nat.le_refl _)
              have hsl := hMj.1.at
              obtain ⟨bo, off, hbo⟩ := hsl.plain scells_len (by decide) (by intro e; rw [e] at hjl; exact absurd hjl (by simp))
              subst hbo
              have hld := msg_load hsl hjl
              have hmem : ps[j] ∈ ps := List.getElem_mem hjl
              have hmb := (hMj.2 _ hmem).at
              have hok := HOS.out.sent _ (List.mem_map_of_mem hmem)
              generalize ps[j] = p at *
              obtain ⟨⟨ha, hn, hc⟩, sd⟩ := p
              dsimp only at hmb hok
              replace hld : Sem.run Tryz.prog (loadCellsFrom ⟨bo, off + j * 16, none⟩ 0 16 #[]) wr = .ok #[.int .i64 sd.kind, .int .i64 sd.frm, .int .i64 sd.to_, .int .i64 sd.seq, .int .i64 sd.node, .int .i64 0, .int .i64 0, .int .i64 0, .int .i64 0, .int .i64 0, .int .i64 0, .int .i64 0, .int .i64 0, .slice none 0 0, .slice none 0 0, .slice ha hn hc] wr := hld
              obtain ⟨W, hW⟩ : ∃ W, wr.alloc (.cells #[.int .i64 sd.kind, .int .i64 sd.frm, .int .i64 sd.to_, .int .i64 sd.seq, .int .i64 sd.node, .int .i64 0, .int .i64 0, .int .i64 0, .int .i64 0, .int .i64 0, .int .i64 0, .int .i64 0, .int .i64 0, .slice none 0 0, .slice none 0 0, .slice ha hn hc] 42) = W := ⟨_, rfl⟩
              have hbW : Below wr.heap.size wr W := by rw [← hW]; exact (Below.refl _ _).alloc (Nat.le_refl _) _
              have hrW : W.heap[wr.heap.size]? = some (.cells #[.int .i64 sd.kind, .int .i64 sd.frm, .int .i64 sd.to_, .int .i64 sd.seq, .int .i64 sd.node, .int .i64 0, .int .i64 0, .int .i64 0, .int .i64 0, .int .i64 0, .int .i64 0, .int .i64 0, .int .i64 0, .slice none 0 0, .slice none 0 0, .slice ha hn hc] 42) := by rw [← hW]; exact heap_alloc_new wr _
              have hBW := HBJ.out.trans (hbW.mono HBJ.out.size)
              have k1 : W.cell? ⟨wr.heap.size, 1, none⟩ = some (.int .i64 self) := by rw [← hok.frm]; exact cell_of_row W _ 1 _ _ _ hrW
              have k0 : W.cell? ⟨wr.heap.size, 0, none⟩ = some (.int .i64 sd.kind) := cell_of_row W _ 0 _ _ _ hrW
              have k2 : W.cell? ⟨wr.heap.size, 2, none⟩ = some (.int .i64 sd.to_) := cell_of_row W _ 2 _ _ _ hrW
              have k3 : W.cell? ⟨wr.heap.size, 3, none⟩ = some (.int .i64 sd.seq) := cell_of_row W _ 3 _ _ _ hrW
              have k4 : W.cell? ⟨wr.heap.size, 4, none⟩ = some (.int .i64 sd.node) := cell_of_row W _ 4 _ _ _ hrW
              have k5 : W.cell? ⟨wr.heap.size, 5, none⟩ = some (.int .i64 0) := cell_of_row W _ 5 _ _ _ hrW
              have k6 : W.cell? ⟨wr.heap.size, 6, none⟩ = some (.int .i64 0) := cell_of_row W _ 6 _ _ _ hrW
              have k7 : W.cell? ⟨wr.heap.size, 7, none⟩ = some (.int .i64 0) := cell_of_row W _ 7 _ _ _ hrW
              have k8 : W.cell? ⟨wr.heap.size, 8, none⟩ = some (.int .i64 0) := cell_of_row W _ 8 _ _ _ hrW
              have k9 : W.cell? ⟨wr.heap.size, 9, none⟩ = some (.int .i64 0) := cell_of_row W _ 9 _ _ _ hrW
              have k10 : W.cell? ⟨wr.heap.size, 10, none⟩ = some (.int .i64 0) := cell_of_row W _ 10 _ _ _ hrW
              have k11 : W.cell? ⟨wr.heap.size, 11, none⟩ = some (.int .i64 0) := cell_of_row W _ 11 _ _ _ hrW
              have k12 : W.cell? ⟨wr.heap.size, 12, none⟩ = some (.int .i64 0) := cell_of_row W _ 12 _ _ _ hrW
              have k13 : W.cell? ⟨wr.heap.size, 13, none⟩ = some (.slice none 0 0) := cell_of_row W _ 13 _ _ _ hrW
              have k14 : W.cell? ⟨wr.heap.size, 14, none⟩ = some (.slice none 0 0) := cell_of_row W _ 14 _ _ _ hrW
              have k15 : W.cell? ⟨wr.heap.size, 15, none⟩ = some (.slice ha hn hc) := cell_of_row W _ 15 _ _ _ hrW
              have n0 : W.cell? ⟨w.heap.size, 0, none⟩ = some (.int .i64 self) := cell_of_row W _ 0 _ _ _ ((hBW.block _ hmc).trans HRC.out)
              have hwl := load_whole hrW rfl
              have hrt : Calls Tryz.prog 22 #[.agg #[.int .i64 sd.kind, .int .i64 sd.frm, .int .i64 sd.to_, .int .i64 sd.seq, .int .i64 sd.node, .int .i64 0, .int .i64 0, .int .i64 0, .int .i64 0, .int .i64 0, .int .i64 0, .int .i64 0, .int .i64 0, .slice none 0 0, .slice none 0 0, .slice ha hn hc]] W fun en w' => en = .returned (.bool true) ∧ Below W.heap.size W w' := right17_sent (sd.msg ⟨ha, hn, hc⟩) hok.kind (hok.right ⟨ha, hn, hc⟩) hok.small W (sent_in (hmb.below Mb.cells_len (by decide) hbW (Nat.le_refl _)))
              rw [hok.frm] at hrt
              have HLD := Lib.hid hld
              have HWW := Lib.hid hW
              have HWL := Lib.hid hwl
              have HRT := Lib.hid hrt
              have HBW := Lib.hid hBW
              clear hMj hsl hld hmem hmb hok hW hbW hrW hBW hwl hrt
              go_wp2_with (first | (rw [HWW.out]) | (refine wpList_loadAgg _ rfl 42 _ rfl 16 (by kernel_rfl) (by kernel_rfl) ⟨bo, off + j * 16, none⟩ rfl _ HLD.out ?_) | (refine wpList_loadAgg _ rfl 42 _ rfl 16 (by kernel_rfl) (by kernel_rfl) ⟨wr.heap.size, 0, none⟩ rfl _ HWL.out ?_))
              refine HRT.out.mono ?_
              rintro e w8 ⟨rfl, hb8⟩
              have HB8 := Lib.hid (HBW.out.trans (hb8.mono HBW.out.size))
              clear hb8 HRT HLD HWW HWL HBW n0 k0 k1 k2 k3 k4 k5 k6 k7 k8 k9 k10 k11 k12 k13 k14 k15
              go_wp2_with fail
              go_roundg (ps.length - (j + 1))
              case measure => omega
              case rel => exact ⟨j + 1, by go_num, by omega, Nat.le_refl _, HB8.out⟩
            · as_aux_lemma =>
              have hjz : ¬ (j : Int) < (ps.length : Int) := by omega
              have hDj := HDC.out.below HBJ.out
              have hwd := words_any M' d' wr hDj
              rw [hgM'] at hwd
              have HWD := Lib.hid hwd
              clear hwd hDj hjl
              go_wp2_with fail
              refine HWD.out.mono ?_
              rintro e w9 ⟨o9, c9, rfl, hown9, hb9⟩
              have HB9 := Lib.hid (HBJ.out.trans (hb9.mono HBJ.out.size))
              have HS9 := Lib.hid hown9.at
              have hl9 := allT_len d'.tab
              clear hown9 hb9 HWD HBJ
              generalize hal : allT d'.tab = al at *
              have HAL := Lib.hid hal
              clear hal
              go_wp2_with fail
              go_loopg [16, 131] al.length (fun gk s16 s131 wr => ∃ (k : Nat), s131 = .int .i64 k ∧ k ≤ al.length ∧ al.length - k ≤ gk ∧ Hid (Below w9.heap.size w9 wr))
              case atStart => exact ⟨0, rfl, Nat.zero_le _, Nat.le_refl _, Below.refl _ _⟩
              case round =>
                obtain ⟨k, rfl, hk, hgk3, HBK⟩ := hrel
                by_cases hkl : k < al.length
                · as_aux_lemma =>
                  have hkz : (k : Int) < (al.length : Int) := by omega
                  have hsl := HS9.out.below Mb.cells_len (by decide) HBK.out (Nat.le_refl _)
                  obtain ⟨b, off, rfl⟩ := hsl.plain Mb.cells_len (by decide) (by intro e; rw [e] at hkl; exact absurd hkl (by simp))
                  have c0 := hsl.cell Mb.cells_len (i := k) (c := 0) hkl (by decide)
                  have c1 := hsl.cell Mb.cells_len (i := k) (c := 1) hkl (by decide)
                  have c2 := hsl.cell Mb.cells_len (i := k) (c := 2) hkl (by decide)
                  replace c0 : wr.cell? ⟨b, off + k * 3, none⟩ = some (.int .i64 al[k].node) := c0
                  replace c1 : wr.cell? ⟨b, off + k * 3 + 1, none⟩ = some (.int .i64 al[k].st) := c1
                  replace c2 : wr.cell? ⟨b, off + k * 3 + 2, none⟩ = some (.int .i64 al[k].inc) := c2
                  have hmem : al[k] ∈ allT d'.tab := by rw [HAL.out]; exact List.getElem_mem hkl
                  generalize al[k] = x at *
                  obtain ⟨xn, xs, xi⟩ := x
                  dsimp only at c0 c1 c2
                  obtain ⟨W, hW⟩ : ∃ W, wr.alloc (.cells #[.int .i64 xn, .int .i64 xs, .int .i64 xi] 45) = W := ⟨_, rfl⟩
                  have hbW : Below wr.heap.size wr W := by rw [← hW]; exact (Below.refl _ _).alloc (Nat.le_refl _) _
                  have hrW : W.heap[wr.heap.size]? = some (.cells #[.int .i64 xn, .int .i64 xs, .int .i64 xi] 45) := by rw [← hW]; exact heap_alloc_new wr _
                  have hBW9 := HBK.out.trans (hbW.mono HBK.out.size)
                  have hBW7 := HB9.out.trans (hBW9.mono HB9.out.size)
                  have x0 : W.cell? ⟨wr.heap.size, 0, none⟩ = some (.int .i64 xn) := cell_of_row W _ 0 _ _ _ hrW
                  have x1 : W.cell? ⟨wr.heap.size, 1, none⟩ = some (.int .i64 xs) := cell_of_row W _ 1 _ _ _ hrW
                  have x2 : W.cell? ⟨wr.heap.size, 2, none⟩ = some (.int .i64 xi) := cell_of_row W _ 2 _ _ _ hrW
                  have n0 : W.cell? ⟨w.heap.size, 0, none⟩ = some (.int .i64 self) := cell_of_row W _ 0 _ _ _ ((hBW7.block _ hmc).trans HRC.out)
                  have hDW := HDC.out.below hBW7
                  have hinc := fun n => inc_any M' d' (W.drewN n) (hDW.keep fun _ _ => rfl)
                  rw [hgM'] at hinc
                  have HWW := Lib.hid hW
                  have HINC := Lib.hid hinc
                  have HB10 := Lib.hid hBW9
                  have HMEM := Lib.hid hmem
                  clear hsl hmem hW hbW hrW hBW9 hBW7 hDW hinc HBK
                  by_cases e1 : xn = self
                  · have f1 : (xn == self) = true := by simpa using e1
                    cases lf' with
                    | true =>
                      as_aux_lemma =>
                      clear e1
                      go_wp2_with fail
                      rw [HWW.out]
                      go_big_quiet (fail)
                      go_wp2_with fail
                      go_roundg (al.length - (k + 1))
                      case measure => omega
                      case rel => exact ⟨k + 1, by go_num, by omega, Nat.le_refl _, HB10.out.trans ((below_drewN W nq).mono HB10.out.size)⟩
                    | false =>
                      as_aux_lemma =>
                      by_cases e2 : xi < 1099511627776
                      · obtain ⟨e3, e4⟩ := HOS.out.od.word HMEM.out e1 e2
                        dsimp only at e3 e4
                        rw [e3] at x1
                        rw [e4] at x2
                        rw [e4] at e2
                        clear e1 e3 e4
                        go_wp2_with fail
                        rw [HWW.out]
                        go_big_quiet (first | (go_at_call 20; refine Calls.quiet_of_same (HINC.out _)))
                        go_wp2_with fail
                        go_roundg (al.length - (k + 1))
                        case measure => omega
                        case rel => exact ⟨k + 1, by go_num, by omega, Nat.le_refl _, HB10.out.trans ((below_drewN W nq).mono HB10.out.size)⟩
                      · have f2 := decide_eq_false e2
                        clear e1
                        go_wp2_with fail
                        rw [HWW.out]
                        go_big_quiet (fail)
                        go_wp2_with fail
                        go_roundg (al.length - (k + 1))
                        case measure => omega
                        case rel => exact ⟨k + 1, by go_num, by omega, Nat.le_refl _, HB10.out.trans ((below_drewN W nq).mono HB10.out.size)⟩
                  · have f1 : (xn == self) = false := by simpa using e1
                    clear e1
                    go_wp2_with fail
                    rw [HWW.out]
                    go_big_quiet (fail)
                    go_wp2_with fail
                    go_roundg (al.length - (k + 1))
                    case measure => omega
                    case rel => exact ⟨k + 1, by go_num, by omega, Nat.le_refl _, HB10.out.trans ((below_drewN W nq).mono HB10.out.size)⟩
                · as_aux_lemma =>
                  have hkz : ¬ (k : Int) < (al.length : Int) := by omega
                  have hBE := HB9.out.trans (HBK.out.mono HB9.out.size)
                  have hDE := HDC.out.below hBE
                  have hBF := HBC.out.trans (hBE.mono HBC.out.size)
                  have HDE := Lib.hid hDE
                  have HBF := Lib.hid hBF
                  clear hBE hDE hBF hkl
                  go_wp2_with fail
                  go_roundg (l.length - (i + 1))
                  case measure => omega
                  case rel => exact ⟨i + 1, lf', d', M', rfl, by go_num, by omega, Nat.le_refl _, hgM', HOS.out.od, HDE.out, HOC.out, HBF.out⟩
      · as_aux_lemma =>
        have hltz : ¬ (i : Int) < (l.length : Int) := by omega
        go_wp2_with fail
        go_ret
        exact ⟨rfl, HB1.out.trans (HB.out.mono HB1.out.size)⟩
  · have HMB := Lib.hid (made_bad self inc c seed w3 hq)
    clear hq
    go_wp2_with fail
    refine HMB.out.mono ?_
    rintro e w4 ⟨rfl, hb4⟩
    have HB4 := Lib.hid (HB3.out.trans (hb4.mono HB3.out.size))
    clear hb4 HMB HB3
    go_wp2_with fail
    go_ret
    exact ⟨rfl, HB1.out.trans (HB4.out.mono HB1.out.size)⟩
end Go.Proofs.YtejihgfigclppaaGreat
