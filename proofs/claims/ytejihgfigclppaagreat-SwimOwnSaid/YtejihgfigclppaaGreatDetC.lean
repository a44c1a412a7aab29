/-
  The detector leaves.
-/
import Derived.Test.YtejihgfigclppaaGreatMTell5
namespace Go.Proofs.YtejihgfigclppaaGreat
open Go.Shelf Go.RowKit Go.Lib Go.Sort
set_option linter.unusedVariables false
set_option linter.unusedSimpArgs false
set_option maxHeartbeats 4000000 in
theorem leave_nil (w : World) : Calls Tryz.prog 21 #[.pointer none] w fun e w' => e = .returned (.tuple #[.slice none 0 0, .int .i64 1]) ∧ w' = w := by
  go_enter Tryz.func21, Tryz.ntmps21
  go_wp2_with fail
  go_ret2
  exact ⟨rfl, rfl⟩
set_option maxHeartbeats 4000000 in
theorem leave_left (M : DM) (d : Det) (hl : d.left = true) (w : World) (h : DetAt w M d) : Calls Tryz.prog 21 #[.pointer (some ⟨M.g, 0, none⟩)] w fun e w' => e = .returned (.tuple #[.slice none 0 0, .int .i64 16]) ∧ w' = w := by
  have k13 : w.cell? ⟨M.g, 13, none⟩ = some (.bool true) := by rw [← hl]; exact h.cell 13
  clear h
  go_enter Tryz.func21, Tryz.ntmps21
  go_wp2_with fail
  go_ret2
  exact ⟨rfl, rfl⟩
set_option maxRecDepth 100000 in
set_option maxHeartbeats 16000000 in
theorem leave_any (M : DM) (d : Det) (hok : DetOk d) (hl : d.left = false) (w : World) (h : DetAt w M d) :
    Calls Tryz.prog 21 #[.pointer (some ⟨M.g, 0, none⟩)] w fun e w' => ∃ v, e = .returned (.tuple #[v, .int .i64 0]) ∧ Stepped M d.leave.1 d.leave.2 w v w' := by
  have hp : Tryz.prog.follows .mixedOrders = true := by kernel_rfl
  have k13 : w.cell? ⟨M.g, 13, none⟩ = some (.bool false) := by rw [← hl]; exact h.cell 13
  have z13 := h.frozen 13
  have hD1 := h.scalar (d' := { d with left := true }) 13 (.bool true) rfl ⟨rfl, rfl, rfl, rfl, rfl, rfl, rfl⟩
  have hT1 := touch_set (fun k => k ∈ M.own) w ⟨M.g, 13, none⟩ (.bool true) M.mem_g
  have hle : d.leave = ((Det.hear { d with left := true } ⟨d.self, 4, d.inc⟩), (othersT (Det.hear { d with left := true } ⟨d.self, 4, d.inc⟩).self (Det.hear { d with left := true } ⟨d.self, 4, d.inc⟩).tab).map fun n => (Det.hear { d with left := true } ⟨d.self, 4, d.inc⟩).send 1 n 0 0) := rfl
  have HLE := Lib.hid hle
  have HD1 := Lib.hid hD1
  have HT1 := Lib.hid hT1
  have HOK := Lib.hid hok
  have HOW := Lib.hid h.own_lt
  have hs1 : (w.setCell ⟨M.g, 13, none⟩ (.bool true)).heap.size = w.heap.size := by simp [World.setCell]
  clear hD1 hT1 hle hok h
  go_enter Tryz.func21, Tryz.ntmps21
  go_wp2_with fail
  generalize w.setCell ⟨M.g, 13, none⟩ (.bool true) = w1 at *
  have k0 : w1.cell? ⟨M.g, 0, none⟩ = some (.int .i64 d.self) := HD1.out.cell 0
  have k1 : w1.cell? ⟨M.g, 1, none⟩ = some (.int .i64 d.inc) := HD1.out.cell 1
  have hhe := hear_any M { d with left := true } ⟨d.self, 4, d.inc⟩ w1.drew (HD1.out.keep fun _ _ => rfl) (HOK.out.leaves.fits)
  have HHE := Lib.hid hhe
  clear hhe k13 z13
  go_cut [27] (fun s27 wx => s27 = .tuple #[] ∧ Hid (DetAt wx M (Det.hear { d with left := true } ⟨d.self, 4, d.inc⟩)) ∧ Hid (Touch (fun k => k ∈ M.own) w wx))
  case first =>
    go_region_held (fun w' => w'.cell? ⟨M.g, 0, none⟩ = some (.int .i64 d.self) ∧ w'.cell? ⟨M.g, 1, none⟩ = some (.int .i64 d.inc)) (first | exact ⟨k0, k1⟩ | exact ⟨j0, j1⟩) (first | (go_at_call 40; refine HHE.out.mono ?_; rintro e w7 ⟨rfl, hD7, hT7⟩; have j0 : w7.cell? ⟨M.g, 0, none⟩ = some (.int .i64 d.self) := (hD7.cell 0).trans (congrArg (fun z => some (Value.int .i64 z)) (hear_self _ _)); have j1 : w7.cell? ⟨M.g, 1, none⟩ = some (.int .i64 d.inc) := (hD7.cell 1).trans (congrArg (fun z => some (Value.int .i64 z)) (hear_inc _ _))))
    all_goals
      go_wp2_with fail
      go_meet
      exact ⟨rfl, hD7, (HT1.out.trans (Touch.of_grown (L := fun k => k ∈ M.own) (gb_drew w1 none) (fun j hj => by cases hj)) fun _ _ h => h).trans hT7 fun n hn hL => hL.elim (fun e => by rw [e]; exact M.mem_gt) fun e => by rw [e]; exact M.mem_gm⟩
  case rest =>
    obtain ⟨rfl, HD2, HT2⟩ := hcut
    clear HHE k0 k1 HD1 HT1
    generalize Det.hear { d with left := true } ⟨d.self, 4, d.inc⟩ = d2 at *
    have hs2 : w.heap.size ≤ wc.heap.size := HT2.out.size
    have hot := othersD_any M d2 wc HD2.out
    have HOT := Lib.hid hot
    clear hot
    go_wp2_with fail
    refine HOT.out.mono ?_
    rintro e w3 ⟨o3, c3, rfl, ho3, hb3⟩
    have hlen := othersT_len d2.self d2.tab
    have HD3 := Lib.hid (HD2.out.below hb3)
    have HT3 := Lib.hid (HT2.out.trans (Touch.of_below (L := fun k => k ∈ M.own) hb3 (Nat.le_refl _)) fun _ _ h => h)
    have hs3 : w.heap.size ≤ w3.heap.size := by have := hb3.size; omega
    have HO3 := Lib.hid ho3
    clear hb3 ho3 HOT HD2 HT2
    generalize hL : othersT d2.self d2.tab = L at *
    have HL := Lib.hid hL
    clear hL
    go_wp2_with fail
    go_loopg [2, 31] L.length (fun gk s2 s31 wr => ∃ (i : Nat) (oq : Option Addr) (cq : Nat) (ps : List PSent), s31 = .int .i64 i ∧ s2 = .slice oq ps.length cq ∧ i ≤ L.length ∧ L.length - i ≤ gk ∧ Hid (MsgsAt w3.heap.size wr (.slice oq ps.length cq) ps) ∧ Hid (ps.map (·.2) = (L.take i).map fun n => d2.send 1 n 0 0) ∧ Hid (Below w3.heap.size w3 wr))
    case atStart => exact ⟨0, none, 0, [], rfl, rfl, Nat.zero_le _, Nat.le_refl _, MsgsAt.none _ _, rfl, Below.refl _ _⟩
    case round =>
      obtain ⟨i, oq, cq, ps, rfl, rfl, hi, hgk, HMS, HMP, HBW⟩ := hrel
      by_cases hlt : i < L.length
      · have hltz : (i : Int) < (L.length : Int) := by omega
        have hsl := (HO3.out.at).below icells_len (by decide) HBW.out (Nat.le_refl _)
        obtain ⟨lb, loff, rfl⟩ := hsl.plain icells_len (by decide) (by intro e; rw [e] at hlt; exact absurd hlt (by simp))
        have cx := hsl.cell icells_len (i := i) (c := 0) hlt (by decide)
        replace cx : wr.cell? ⟨lb, loff + i, none⟩ = some (.int .i64 L[i]) := by
          have e : loff + (i * 1 + 0) = loff + i := by omega
          rw [e] at cx
          exact cx
        have htk : (L.take (i + 1)).map (fun n => d2.send 1 n 0 0) = (L.take i).map (fun n => d2.send 1 n 0 0) ++ [d2.send 1 L[i] 0 0] := by rw [List.take_succ_eq_append_getElem hlt, List.map_append]; rfl
        have hpl : ps.length = i := by have := congrArg List.length HMP.out; simp only [List.length_map, List.length_take] at this; omega
        have HTK := Lib.hid htk
        have HMP2 := Lib.hid HMP.out
        generalize L[i] = x at *
        have hDr := HD3.out.below HBW.out
        have hse := send_any M d2 1 x 0 0 wr hDr
        have HSE := Lib.hid hse
        have hl8 : ps.length ≤ 8 := by omega
        have HPL := Lib.hid hpl
        have hB : w3.heap.size ≤ wr.heap.size := HBW.out.size
        clear htk hDr hse hsl HMP hpl
        go_wp2_with fail
        refine HSE.out.mono ?_
        rintro e w8 ⟨o8, c8, rfl, ho8, hb8⟩
        have HO8 := Lib.hid ho8
        have HB8 := Lib.hid hb8
        clear ho8 hb8 HSE cx
        unfold sentV Det.send
        dsimp only
        go_wp2_with (at_builtin; refine wpList_app scells 16 scells_len (by decide) scells_one _ rfl _ _ 34 rfl w3.heap.size 42 _ 176 Tryz.underlying34 infoMsg rfl _ ps rfl ?h1 _ [((⟨o8, (allT d2.tab).length, c8⟩ : Hdr), d2.send 1 x 0 0)] rfl ?h2 ?h3 ?h4 ?h5 ?_)
        case h1 => exact (HMS.out.1.below HB8.out (Nat.le_refl _)).below ((Below.refl _ _).alloc (Nat.le_refl _) _) (Nat.le_refl _)
        case h2 => exact (owns_new scells_len w8 (scells (⟨o8, (allT d2.tab).length, c8⟩, d2.send 1 x 0 0)).toArray 42 [((⟨o8, (allT d2.tab).length, c8⟩ : Hdr), d2.send 1 x 0 0)] (by simp) (by simp)).at
        case h3 => simp only [List.length_singleton]; omega
        case h4 => simp only [List.length_singleton]; omega
        case h5 => have := HB8.out.size; simp; omega
        intro v2 w2 hown2 hg2 hv2
        have hM8 : MsgsAt w3.heap.size (w8.alloc (.cells (scells (⟨o8, (allT d2.tab).length, c8⟩, d2.send 1 x 0 0)).toArray 42)) (.slice oq ps.length cq) ps := (HMS.out.below HB8.out (Nat.le_refl _)).below ((Below.refl _ _).alloc (Nat.le_refl _) _) (Nat.le_refl _)
        have hmm := msgs_app (ms := [((⟨o8, (allT d2.tab).length, c8⟩ : Hdr), d2.send 1 x 0 0)]) hM8 (fun q hq => by
          rw [List.mem_singleton] at hq
          subst hq
          exact (HO8.out.below ((Below.refl _ _).alloc (Nat.le_refl _) _) (Nat.le_refl _)).lower hB) hown2 hg2
        obtain ⟨oz, cz, rfl⟩ := slAt_slice hown2.at
        have hBX : Below w3.heap.size w3 w2 := ((HBW.out.trans (HB8.out.mono HBW.out.size)).alloc (by have := HB8.out.size; omega) (.cells (scells (⟨o8, (allT d2.tab).length, c8⟩, d2.send 1 x 0 0)).toArray 42)).grown hg2 (by have := HB8.out.size; simp; omega) fun k hk => (HMS.out.1.lt k hk).1
        have HM2 := Lib.hid hmm
        have HP2 : Hid ((ps ++ [((⟨o8, (allT d2.tab).length, c8⟩ : Hdr), d2.send 1 x 0 0)]).map (·.2) = (L.take (i + 1)).map fun n => d2.send 1 n 0 0) := by
          show (ps ++ [((⟨o8, (allT d2.tab).length, c8⟩ : Hdr), d2.send 1 x 0 0)]).map (·.2) = _
          rw [List.map_append, HMP2.out, HTK.out]
          rfl
        have HBX := Lib.hid hBX
        clear hM8 hmm hown2 hg2 hv2 hBX HMS HBW HB8 HO8
        go_wp2_with fail
        go_roundg (L.length - (i + 1))
        case measure => omega
        case rel => exact ⟨i + 1, oz, cz, ps ++ [((⟨o8, (allT d2.tab).length, c8⟩ : Hdr), d2.send 1 x 0 0)], by go_num, rfl, by omega, Nat.le_refl _, HM2.out, HP2.out, HBX.out⟩
      · have hltz : ¬ (i : Int) < (L.length : Int) := by omega
        obtain rfl : i = L.length := by omega
        rw [List.take_length] at HMP
        have hlow := HD3.out.own_lt
        have hD5 := HD3.out.below HBW.out
        have hA5 : Aside M.own (.slice oq ps.length cq) ps := fun b hb hm => by
          have h1 := (HMS.out.blk b hb).1
          have h2 := hlow b hm
          omega
        have hT5 := HT3.out.trans (Touch.of_below (L := fun k => k ∈ M.own) HBW.out (Nat.le_refl _)) fun _ _ h => h
        have HST : Hid (Stepped M d2 (L.map fun n => d2.send 1 n 0 0) w (.slice oq ps.length cq) wr) := ⟨M, ps, hD5, HMS.out.lower hs3, HMP, hA5, NewM.refl _ _, hT5⟩
        clear hlow hD5 hA5 hT5 HMS HBW HMP HD3 HT3 HO3
        go_wp2_with fail
        go_ret2
        refine ⟨_, rfl, ?_⟩
        rw [HLE.out]
        exact HST.out
end Go.Proofs.YtejihgfigclppaaGreat
