/-
  The reference's Great, Copy, Copies, and Dots, Same, All where both sides are the same.
-/
import Derived.Test.YtejihgfigclppaaGreatMSat
import Derived.Deep.QuietTactic
import Derived.BigQuiet
namespace Go.Proofs.YtejihgfigclppaaGreat
open Go.Shelf Go.RowKit Go.Lib Go.Sort
set_option linter.unusedVariables false
def bulk : List Ev → Nat
 | [] => 0
 | e :: l => 1 + e.rem.length + bulk l
theorem bulk_append (a b : List Ev) : bulk (a ++ b) = bulk a + bulk b := by
 induction a with
 | nil => simp [bulk]
 | cons x a ih => simp only [List.cons_append, bulk, ih]; omega
theorem bulk_len (l : List Ev) : l.length ≤ bulk l := by
 induction l with
 | nil => simp [bulk]
 | cons x a ih => simp only [List.length_cons, bulk]; omega
theorem bulk_mem (l : List Ev) (e : Ev) (h : e ∈ l) : e.rem.length ≤ bulk l := by
 induction l with
 | nil => cases h
 | cons x a ih =>
  simp only [bulk]
  rcases List.mem_cons.1 h with rfl | h
  ·omega
  ·have := ih h; omega
theorem bulk_take (ps : List PEv) (i : Nat) (p : PEv) (hp : ps[i]? = some p) : bulk ((ps.take (i + 1)).map (·.2)) = bulk ((ps.take i).map (·.2)) + (1 + p.2.rem.length) := by
 rw [List.take_succ_eq_append_getElem (List.getElem?_eq_some_iff.1 hp).1, (List.getElem?_eq_some_iff.1 hp).2, List.map_append, bulk_append]
 simp [bulk]
theorem bulk_le (ps : List PEv) (i : Nat) : bulk ((ps.take i).map (·.2)) ≤ bulk (ps.map (·.2)) := by
 have : ps.map (·.2) = (ps.take i).map (·.2) ++ (ps.drop i).map (·.2) := by rw [← List.map_append, List.take_append_drop]
 rw [this, bulk_append]; omega
set_option maxHeartbeats 4000000 in
theorem great_any (oa : Option Addr) (cap : Nat) (ps : List PEv) (w : World) (h : EvsAt w (.slice oa ps.length cap) ps) (hl : ps.length ≤ 1099511627776) (hr : ∀ p ∈ ps, p.2.rem.length ≤ 8796093022208) :
  Calls Tryz.prog 90 #[.slice oa ps.length cap] w fun e w' => e = .returned (.bool (decide (3000 < bulk (ps.map (·.2))))) ∧ Below w.heap.size w w' := by
 have HE := Lib.hid h
 have HR := Lib.hid hr
 clear h hr
 go_enter Tryz.func90, Tryz.ntmps90
 go_wp2_with fail
 go_loopg [3, 8] ps.length (fun gk s3 s8 wr => ∃ (i : Nat) (n : Int), s8 = .int .i64 i ∧ s3 = .int .i64 n ∧ i ≤ ps.length ∧ ps.length - i ≤ gk ∧ 0 ≤ n ∧ n ≤ 3000 ∧ Hid (n = (bulk ((ps.take i).map (·.2)) : Nat)) ∧ Hid (Below w.heap.size w wr))
 case atStart => exact ⟨0, 0, rfl, rfl, Nat.zero_le _, Nat.le_refl _, by decide, by decide, by show _ = _; simp [bulk], Below.refl _ _⟩
 case round =>
  obtain ⟨i, n, rfl, rfl, hi, hg, hn0, hn1, HN, HB⟩ := hrel
  by_cases hlt : i < ps.length
  ·have hltz : (i : Int) < (ps.length : Int) := by omega
   have hsl : SlAt pcells wr (.slice oa ps.length cap) ps := HE.out.1.below pcells_len (by decide) HB.out (Nat.le_refl _)
   obtain ⟨b, off, rfl⟩ := slAt_some hsl i hlt
   obtain ⟨ra, rn, rc, ev, hp, c0, c1, c2, c3, c4, c5, c6, c7, c8, c9, c10, c11, c12, c13⟩ := hsl.ev i hlt
   have hmem : (⟨⟨ra, rn, rc⟩, ev⟩ : PEv) ∈ ps := List.mem_of_getElem? hp
   have hrl : ev.rem.length ≤ 8796093022208 := HR.out _ hmem
   have hrn : rn = ev.rem.length := by
    obtain ⟨_, _, hv, _⟩ := (HE.out.2 _ hmem).slice_of
    simp only [Hdr.val, Value.slice.injEq] at hv
    exact hv.2.1
   subst hrn
   have hbt := bulk_take ps i _ hp
   have hble := bulk_le ps (i + 1)
   simp only at hbt
   generalize ev.rem.length = rl at *
   have HBT := Lib.hid hbt
   have HBL := Lib.hid hble
   clear hsl hp hmem hbt hble
   by_cases h3 : 3000 < n + (1 + (rl : Int))
   ·go_wp2_with fail
    go_ret
    have e1 := HN.out
    have e2 := HBT.out
    have e3 := HBL.out
    refine ⟨?_, HB.out.trans ((Below.refl _ _).alloc HB.out.size _)⟩
    rw [decide_eq_true (by omega)]
    rfl
   ·go_wp2_with fail
    go_roundg (ps.length - (i + 1))
    case measure => omega
    case rel => exact ⟨i + 1, n + (1 + (rl : Int)), by go_num, by go_num, by omega, Nat.le_refl _, by omega, by omega, by have e1 := HN.out; have e2 := HBT.out; show _ = _; omega, HB.out.trans ((Below.refl _ _).alloc HB.out.size _)⟩
  ·have hltz : ¬ (i : Int) < (ps.length : Int) := by omega
   obtain rfl : i = ps.length := by omega
   go_wp2_with fail
   go_ret
   have e1 := HN.out
   rw [List.take_length] at e1
   refine ⟨?_, HB.out⟩
   rw [decide_eq_false (by omega)]
   rfl
theorem copy_any (p : PEv) (w : World) (h : SlAt Dot.cells w p.1.val p.2.rem) (hl : p.2.rem.length ≤ 1000000) :
  Calls Tryz.prog 100 #[.agg (pcells p).toArray] w fun e w' => ∃ hd : Hdr, e = .returned (.agg (pcells (hd, p.2)).toArray) ∧ Owns Dot.cells 2 w.heap.size 108 w' hd.val p.2.rem ∧ Below w.heap.size w w' := by
 obtain ⟨⟨ra, rn, rc⟩, ev⟩ := p
 show Calls Tryz.prog 100 #[.agg #[.int .i64 ev.dot.node, .int .i64 ev.dot.seq, .int .i64 ev.time, .int .i64 ev.kind, .int .i64 ev.work, .int .i64 ev.value, .int .i64 ev.pol.mn, .int .i64 ev.pol.mx, .int .i64 ev.pol.goal, .int .i64 ev.pol.slack, .int .i64 ev.pol.up, .int .i64 ev.pol.down, .int .i64 ev.pol.cool, .slice ra rn rc]] w fun e w' => ∃ hd : Hdr, e = .returned (.agg #[.int .i64 ev.dot.node, .int .i64 ev.dot.seq, .int .i64 ev.time, .int .i64 ev.kind, .int .i64 ev.work, .int .i64 ev.value, .int .i64 ev.pol.mn, .int .i64 ev.pol.mx, .int .i64 ev.pol.goal, .int .i64 ev.pol.slack, .int .i64 ev.pol.up, .int .i64 ev.pol.down, .int .i64 ev.pol.cool, hd.val]) ∧ Owns Dot.cells 2 w.heap.size 108 w' hd.val ev.rem ∧ Below w.heap.size w w'
 have HS := Lib.hid h
 simp only at hl
 generalize ev.rem = ds at *
 clear h
 go_enter Tryz.func100, Tryz.ntmps100
 go_wp2_with (at_builtin; go_loud (refine wpList_app Dot.cells 2 Dot.cells_len (by decide) Dot.cells_one _ rfl _ _ 38 rfl (w.heap.size + 1 + 1) 108 _ 16 Tryz.underlying38 infoDot rfl _ [] rfl ?h1 _ ds rfl ?h2 ?h3 ?h4 ?h5 ?_))
 case h1 => exact owns_made _ _ (by rw [World.size_alloc, World.size_alloc])
 case h2 => exact HS.out.below (B := w.heap.size) Dot.cells_len (by decide) ((((Below.refl w.heap.size w).alloc (Nat.le_refl _) _).alloc (by simp) _).alloc (by simp <;> omega) _) (Nat.le_refl _)
 case h3 => first | omega | (simp; omega)
 case h4 => first | omega | (simp; omega)
 intro v' w' hown hg hv
 have hex : ∃ h : Hdr, v' = h.val := hdr_of_slAt hown.at
 obtain ⟨⟨ha, hn, hc⟩, hh⟩ := hex
 rw [hh] at hown ⊢
 simp only [Hdr.val]
 have hb : Below w.heap.size w w' := ((((Below.refl _ _).alloc (Nat.le_refl _) _).alloc (by simp <;> omega) _).alloc (by simp <;> omega) _).grown hg (by simp <;> omega) (fun k hk => by simp [Value.ownBlock] at hk; omega)
 have hne0 : (some w.heap.size) ≠ (Value.slice (some ⟨w.heap.size + 1 + 1, 0, none⟩) 0 0).ownBlock := by simp [Value.ownBlock]; omega
 have hne1 : (some (w.heap.size + 1)) ≠ (Value.slice (some ⟨w.heap.size + 1 + 1, 0, none⟩) 0 0).ownBlock := by simp [Value.ownBlock]
 have hg0 := hg.block w.heap.size (by simp <;> omega) hne0
 have hg1 := hg.block (w.heap.size + 1) (by simp <;> omega) hne1
 rw [Below.heap_alloc _ _ _ (by simp <;> omega), Below.heap_alloc _ _ _ (by simp), heap_alloc_new] at hg0
 rw [Below.heap_alloc _ _ _ (by simp <;> omega), show w.heap.size + 1 = (w.alloc (.cells #[.int .i64 ev.dot.node, .int .i64 ev.dot.seq, .int .i64 ev.time, .int .i64 ev.kind, .int .i64 ev.work, .int .i64 ev.value, .int .i64 ev.pol.mn, .int .i64 ev.pol.mx, .int .i64 ev.pol.goal, .int .i64 ev.pol.slack, .int .i64 ev.pol.up, .int .i64 ev.pol.down, .int .i64 ev.pol.cool, .slice ra rn rc] 112 (0, 0))).heap.size from (World.size_alloc _ _).symm, heap_alloc_new, World.size_alloc] at hg1
 have hA : ∀ o, w'.cell? ⟨w.heap.size, o, none⟩ = (#[.int .i64 ev.dot.node, .int .i64 ev.dot.seq, .int .i64 ev.time, .int .i64 ev.kind, .int .i64 ev.work, .int .i64 ev.value, .int .i64 ev.pol.mn, .int .i64 ev.pol.mx, .int .i64 ev.pol.goal, .int .i64 ev.pol.slack, .int .i64 ev.pol.up, .int .i64 ev.pol.down, .int .i64 ev.pol.cool, .slice ra rn rc] : Array Value)[o]? := fun o => by unfold World.cell?; rw [hg0]; rfl
 have hB : ∀ o, w'.cell? ⟨w.heap.size + 1, o, none⟩ = (#[.int .i64 0, .int .i64 0, .int .i64 0, .int .i64 0, .int .i64 0, .int .i64 0, .int .i64 0, .int .i64 0, .int .i64 0, .int .i64 0, .int .i64 0, .int .i64 0, .int .i64 0, .slice none 0 0] : Array Value)[o]? := fun o => by unfold World.cell?; rw [hg1]; rfl
 have fA : ∀ o, w'.frozen? ⟨w.heap.size, o, none⟩ = false := fun o => by unfold World.frozen?; rw [hg0]; simp
 have fB : ∀ o, w'.frozen? ⟨w.heap.size + 1, o, none⟩ = false := fun o => by unfold World.frozen?; rw [hg1]; simp
 have hz : w.heap.size + 1 < w'.heap.size := by have := hg.size; simp at this; omega
 have HB := Lib.hid hb
 have HO := Lib.hid hown
 clear hb hown hg hv hh hg0 hg1 hne0 hne1
 go_wp2_with fail
 refine bodyPost_ret (v := .agg #[.int .i64 ev.dot.node, .int .i64 ev.dot.seq, .int .i64 ev.time, .int .i64 ev.kind, .int .i64 ev.work, .int .i64 ev.value, .int .i64 ev.pol.mn, .int .i64 ev.pol.mx, .int .i64 ev.pol.goal, .int .i64 ev.pol.slack, .int .i64 ev.pol.up, .int .i64 ev.pol.down, .int .i64 ev.pol.cool, .slice ha hn hc]) (by simp [results, Tryz.results100, go_sem, cell_set, hB]) rfl ⟨⟨ha, hn, hc⟩, rfl, ?_, ?_⟩
 ·refine (HO.out.keep fun g hg2 => ?_).lower (by omega)
  have hgb := (HO.out.lt g hg2).1
  have key0 : ∀ (W : World) (o : Nat) (u : Value), (W.setCell ⟨w.heap.size, o, none⟩ u).heap[g]? = W.heap[g]? := fun W o u => Below.heap_setCell _ _ _ _ (by show g ≠ w.heap.size; omega)
  have key1 : ∀ (W : World) (o : Nat) (u : Value), (W.setCell ⟨w.heap.size + 1, o, none⟩ u).heap[g]? = W.heap[g]? := fun W o u => Below.heap_setCell _ _ _ _ (by show g ≠ w.heap.size + 1; omega)
  simp only [key0, key1]
 ·have hb := HB.out
  clear hA hB fA fB
  go_grown
theorem acc_round2 {B e ed C : Nat} {wr w1 w' : World} {lit : Obj} {v v' : Value} {qs : List PEv} {hd : Hdr} {ev : Ev} (hB : B ≤ wr.heap.size) (hC : wr.heap.size ≤ C)
  (h : Acc B e ed wr v qs) (hb : Below wr.heap.size wr w1) (hc : Owns Dot.cells 2 C ed w1 hd.val ev.rem)
  (ho : Owns pcells 14 B e w' v' (qs ++ [(hd, ev)])) (hg : (w1.alloc lit).grownBy w' v.ownBlock) (hv : v'.ownBlock = v.ownBlock ∨ ∀ g, v'.ownBlock = some g → w1.heap.size + 1 ≤ g) :
  Acc B e ed w' v' (qs ++ [(hd, ev)]) ∧ Below B wr w' := by
 have h3 : Below wr.heap.size wr (w1.alloc lit) := hb.alloc hb.size lit
 refine ⟨(h.below h3 (Nat.le_refl _)).push (fun q hq => ?_) ho hg (by simpa using hv), (h3.mono hB).grown hg (Nat.le_trans hB h3.size) fun k hk => (h.row.lt k hk).1⟩
 obtain rfl : q = (hd, ev) := by simpa using hq
 refine ⟨(hc.lower (by omega)).keep fun g hg2 => ?_, ?_⟩
 ·exact Below.heap_alloc _ _ _ (hc.lt g hg2).2
 ·cases hx : hd.val.ownBlock with
  | none => exact .inl rfl
  | some g =>
   refine .inr fun e2 => ?_
   have h1 := (hc.lt g hx).1
   have h2 := (h.row.lt g e2.symm).2
   omega
set_option maxHeartbeats 4000000 in
theorem copies_any (oa : Option Addr) (cap : Nat) (ps : List PEv) (w : World) (h : EvsAt w (.slice oa ps.length cap) ps) (hl : ps.length ≤ 1000000) (hr : ∀ p ∈ ps, p.2.rem.length ≤ 1000000) :
  Calls Tryz.prog 67 #[.slice oa ps.length cap] w fun e w' => ∃ oq cq qs, e = .returned (.slice oq ps.length cq) ∧ qs.length = ps.length ∧ qs.map (·.2) = ps.map (·.2) ∧ Acc w.heap.size 112 108 w' (.slice oq ps.length cq) qs ∧ Below w.heap.size w w' := by
 have HE := Lib.hid h
 have HR := Lib.hid hr
 clear h hr
 go_enter Tryz.func67, Tryz.ntmps67
 go_wp2_with fail
 go_loopg [3, 8] ps.length (fun gk s5 s13 wr => ∃ (i : Nat) (oq : Option Addr) (cq : Nat) (qs : List PEv), s13 = .int .i64 i ∧ s5 = .slice oq i cq ∧ i ≤ ps.length ∧ ps.length - i ≤ gk ∧ qs.length = i ∧ Hid (Acc w.heap.size 112 108 wr (.slice oq i cq) qs) ∧ Hid (qs.map (·.2) = (ps.take i).map (·.2)) ∧ Hid (Below w.heap.size w wr))
 case atStart => exact ⟨0, none, 0, [], rfl, rfl, Nat.zero_le _, Nat.le_refl _, rfl, Acc.nil _ _ _ _, by show _ = _; simp, Below.refl _ _⟩
 case round =>
  obtain ⟨i, oq, cq, qs, rfl, rfl, hi, hg, hqi, HO, HQ, HB⟩ := hrel
  by_cases hlt : i < ps.length
  ·have hltz : (i : Int) < (ps.length : Int) := by omega
   have hsl : SlAt pcells wr (.slice oa ps.length cap) ps := HE.out.1.below pcells_len (by decide) HB.out (Nat.le_refl _)
   obtain ⟨b, off, rfl⟩ := slAt_some hsl i hlt
   obtain ⟨ra, rn, rc, ev, hp, c0, c1, c2, c3, c4, c5, c6, c7, c8, c9, c10, c11, c12, c13⟩ := hsl.ev i hlt
   have hmem : (⟨⟨ra, rn, rc⟩, ev⟩ : PEv) ∈ ps := List.mem_of_getElem? hp
   have hrem : SlAt Dot.cells wr (.slice ra rn rc) ev.rem := (HE.out.2 _ hmem).below Dot.cells_len (by decide) HB.out (Nat.le_refl _)
   have hrl : ev.rem.length ≤ 1000000 := HR.out _ hmem
   have htk : (ps.take (i + 1)).map (·.2) = (ps.take i).map (·.2) ++ [ev] := by
    rw [List.take_succ_eq_append_getElem hlt, (List.getElem?_eq_some_iff.1 hp).2, List.map_append]; rfl
   have HREM := Lib.hid hrem
   have HTK := Lib.hid htk
   clear hsl hp hmem hrem htk
   go_wp2_with fail
   refine (copy_any (⟨ra, rn, rc⟩, ev) _ (HREM.out.below Dot.cells_len (by decide) ((Below.refl _ _).alloc (Nat.le_refl _) _) (Nat.le_refl _)) hrl).mono ?_
   rintro e w1 ⟨⟨ha, hn, hc⟩, rfl, hown, hb⟩
   obtain ⟨hcell, hfr⟩ := bcell hb
   have hz : wr.heap.size < w1.heap.size := by have := hb.size; simp at this; omega
   have hb1 : Below wr.heap.size wr w1 := ((Below.refl _ _).alloc (Nat.le_refl _) _).trans (hb.mono (by simp))
   have HOWN := Lib.hid hown
   have HB1 := Lib.hid hb1
   clear hown hb hb1
   simp only [pcells, evCells, Hdr.val]
   go_wp2_with (at_builtin; go_loud (refine wpList_app pcells 14 pcells_len (by decide) pcells_one _ rfl _ _ 39 rfl w.heap.size 112 _ 128 Tryz.underlying39 infoEv rfl _ qs rfl ?h1 _ [(⟨ha, hn, hc⟩, ev)] rfl ?h2 ?h3 ?h4 ?h5 ?_))
   case h1 => exact HO.out.row.below (HB1.out.alloc HB1.out.size _) (Nat.le_refl _)
   case h2 => exact slAt_new (enc := pcells) w1 (pcells (⟨ha, hn, hc⟩, ev)).toArray 112 1 1 (0, 0) [(⟨ha, hn, hc⟩, ev)] rfl rfl (by decide)
   case h3 => first | omega | (simp; omega)
   case h4 => first | omega | (simp; omega)
   case h5 => have h6 := HB.out.size; have h7 := HB1.out.size; simp; omega
   intro v' w' hown2 hg2 hv2
   obtain ⟨hacc, hbb⟩ := acc_round2 HB.out.size (by simp) HO.out HB1.out HOWN.out hown2 hg2 (by simpa using hv2)
   obtain ⟨oq', cq', hv'⟩ := slAt_slice hown2.at
   have hln : (qs ++ [((⟨ha, hn, hc⟩ : Hdr), ev)]).length = i + 1 := by simp [hqi]
   rw [hln] at hv'
   rw [hv'] at hacc ⊢
   have HACC := Lib.hid hacc
   have HBB := Lib.hid hbb
   clear hacc hbb hown2 hg2 hv2 hcell hfr
   go_wp2_with fail
   go_roundg (ps.length - (i + 1))
   case measure => omega
   case rel => exact ⟨i + 1, oq', cq', qs ++ [((⟨ha, hn, hc⟩ : Hdr), ev)], by go_num, rfl, by omega, Nat.le_refl _, hln, HACC, by show _ = _; rw [HTK.out, List.map_append, HQ.out]; rfl, HB.out.trans HBB.out⟩
  ·have hltz : ¬ (i : Int) < (ps.length : Int) := by omega
   obtain rfl : i = ps.length := by omega
   go_wp2_with fail
   go_ret
   exact ⟨oq, cq, rfl, qs, hqi, by have := HQ.out; rwa [List.take_length] at this, HO.out, HB.out⟩
set_option maxHeartbeats 4000000 in
theorem dots_any (oa ob : Option Addr) (ca cb : Nat) (ds : List Dot) (w : World) (h1 : SlAt Dot.cells w (.slice oa ds.length ca) ds) (h2 : SlAt Dot.cells w (.slice ob ds.length cb) ds) (hl : ds.length ≤ 1000000) :
  Calls Tryz.prog 101 #[.slice oa ds.length ca, .slice ob ds.length cb] w fun e w' => e = .returned (.bool true) ∧ Grew w w' := by
 have H1 := Lib.hid h1
 have H2 := Lib.hid h2
 clear h1 h2
 go_enter Tryz.func101, Tryz.ntmps101
 go_wp2_with fail
 go_loopg [13] ds.length (fun gk s13 wr => ∃ (i : Nat) (q : Nat), s13 = .int .i64 i ∧ i ≤ ds.length ∧ ds.length - i ≤ gk ∧ wr = w.drewN q)
 case atStart => exact ⟨0, 0, rfl, Nat.zero_le _, Nat.le_refl _, rfl⟩
 case round =>
  obtain ⟨i, q, rfl, hi, hg, rfl⟩ := hrel
  by_cases hlt : i < ds.length
  ·have hltz : (i : Int) < (ds.length : Int) := by omega
   obtain ⟨b, off, rfl⟩ := H1.out.plain Dot.cells_len (by decide) (by intro e; rw [e] at hlt; exact absurd hlt (by simp))
   obtain ⟨b2, off2, rfl⟩ := H2.out.plain Dot.cells_len (by decide) (by intro e; rw [e] at hlt; exact absurd hlt (by simp))
   obtain ⟨d, hd, c0, c1⟩ := H1.out.dot i hlt
   obtain ⟨d2, hd2, k0, k1⟩ := H2.out.dot i hlt
   obtain rfl : d = d2 := by rw [hd] at hd2; exact Option.some.inj hd2
   clear hd hd2
   go_wp2_with fail
   go_quiet (fail)
   go_wp2_with fail
   go_roundg (ds.length - (i + 1))
   case measure => omega
   case rel => exact ⟨i + 1, q + nq, by go_num, by omega, Nat.le_refl _, rfl⟩
  ·have hltz : ¬ (i : Int) < (ds.length : Int) := by omega
   obtain rfl : i = ds.length := by omega
   go_wp2_with fail
   go_ret
   exact ⟨rfl, q, #[], by rw [grow_empty]⟩
end Go.Proofs.YtejihgfigclppaaGreat
