/-
  Steps of a gossip as they are handed in: how they lie, and are they more than is looked at?
-/
import Derived.Test.YtenkfnhcdfmkaaaGreatGreat17
import Derived.Test.YtenkfnhcdfmkaaaGreatGosG
namespace Go.Proofs.YtenkfnhcdfmkaaaGreat
open Go.Shelf Go.RowKit Go.Lib Go.Sort
set_option linter.unusedVariables false
set_option linter.unusedSimpArgs false
structure GOp where
 kind : Int
 l : List Int
 lh : Hdr
 m : Msg
 e : Ev
 eh : Hdr
def GOp.cells (o : GOp) : List Value := .int .i64 o.kind :: o.lh.val :: (o.m.cells ++ pcells (o.eh, o.e))
theorem GOp.cells_len (o : GOp) : o.cells.length = 32 := rfl
structure GOpIn (w : World) (o : GOp) : Prop where
 l : SlAt icells w o.lh.val o.l
 m : MsgIn w o.m
 e : SlAt Dot.cells w o.eh.val o.e.rem
theorem GOpIn.below {w w' : World} {o : GOp} {B : Nat} (h : GOpIn w o) (hb : Below B w w') (hB : w.heap.size ≤ B) : GOpIn w' o := ⟨h.l.below icells_len (by decide) hb hB, h.m.below hb hB, h.e.below Dot.cells_len (by decide) hb hB⟩
structure GOpsAt (w : World) (v : Value) (l : List GOp) : Prop where
 row : SlAt GOp.cells w v l
 ops : ∀ o ∈ l, GOpIn w o
theorem GOpsAt.below {w w' : World} {v : Value} {l : List GOp} {B : Nat} (h : GOpsAt w v l) (hb : Below B w w') (hB : w.heap.size ≤ B) : GOpsAt w' v l := ⟨h.row.below GOp.cells_len (by decide) hb hB, fun o ho => (h.ops o ho).below hb hB⟩
theorem op32a (w : World) : (isAgg 46).run Tryz.prog w = .ok true w := by kernel_rfl
theorem op32b (w : World) : (sizeOf 46).run Tryz.prog w = .ok 32 w := by kernel_rfl
theorem msg16a (w : World) : (isAgg 38).run Tryz.prog w = .ok true w := by kernel_rfl
theorem msg16b (w : World) : (sizeOf 38).run Tryz.prog w = .ok 16 w := by kernel_rfl
def zeroOp : Array Value := #[.int .i64 0, .slice none 0 0, .int .i64 0, .int .i64 0, .int .i64 0, .int .i64 0, .int .i64 0, .int .i64 0, .int .i64 0, .int .i64 0, .int .i64 0, .int .i64 0, .int .i64 0, .int .i64 0, .int .i64 0, .slice none 0 0, .slice none 0 0, .slice none 0 0, .int .i64 0, .int .i64 0, .int .i64 0, .int .i64 0, .int .i64 0, .int .i64 0, .int .i64 0, .int .i64 0, .int .i64 0, .int .i64 0, .int .i64 0, .int .i64 0, .int .i64 0, .slice none 0 0]
theorem gop_one (o : GOp) : o.cells.toArray.all (·.oneCell') = true := by
 rw [List.all_toArray, List.all_eq_true]
 intro v hv
 simp only [GOp.cells, List.mem_cons, List.mem_append] at hv
 rcases hv with rfl | rfl | hv | hv
 ·rfl
 ·rfl
 ·exact Msg.cells_one o.m v hv
 ·exact pcells_one _ v hv
theorem gop_info : ((Tryz.prog).info? 46).map (·.size) = some 32 := by kernel_rfl
theorem gop_lay (wr : World) (A : Array Value) (o : GOp) (hA : A = o.cells.toArray) : ((wr.alloc (.cells zeroOp 46)).setRow wr.heap.size A).heap[wr.heap.size]? = some (.cells o.cells.toArray 46) ∧ Below wr.heap.size wr ((wr.alloc (.cells zeroOp 46)).setRow wr.heap.size A) := by
 have h1 := setRow_heap (wr.alloc (.cells zeroOp 46)) wr.heap.size _ A _ _ (heap_alloc_new wr _)
 refine ⟨by rw [← hA]; exact h1, ?_⟩
 have h2 : Below wr.heap.size wr (wr.alloc (.cells zeroOp 46)) := (Below.refl _ _).alloc (Nat.le_refl _) _
 exact h2.trans ⟨rfl, rfl, rfl, by simp [World.setRow], fun k hk => setRow_other _ wr.heap.size k _ (by omega)⟩
theorem gop_load {w : World} {g off n cap : Nat} {l : List GOp} (hs : SlAt GOp.cells w (.slice (some ⟨g, off, none⟩) n cap) l) {i : Nat} (hi : i < l.length) : Sem.run Tryz.prog (loadCellsFrom ⟨g, off + i * 32, none⟩ 0 32 #[]) w = .ok (l[i].cells).toArray w := by
 refine run_loadCellsFrom_list Tryz.prog w ⟨g, off + i * 32, none⟩ (l[i].cells) 32 (GOp.cells_len _) fun j v hv => ?_
 rw [Addr.add_lit]
 have hj : j < 32 := by have := (List.getElem?_eq_some_iff.1 hv).1; rwa [GOp.cells_len] at this
 have := hs.cell GOp.cells_len (i := i) (c := j) hi hj
 rw [show off + i * 32 + j = off + (i * 32 + j) by omega, this, hv]
theorem gopMsg_load {w : World} {g : Nat} {o : GOp} (h : w.heap[g]? = some (.cells o.cells.toArray 46)) : Sem.run Tryz.prog (loadCellsFrom ⟨g, 2, none⟩ 0 16 #[]) w = .ok o.m.cells.toArray w := by
 refine run_loadCellsFrom_list Tryz.prog w ⟨g, 2, none⟩ o.m.cells 16 (Msg.cells_len _) fun j v hv => ?_
 have hj : j < 16 := by have := (List.getElem?_eq_some_iff.1 hv).1; rwa [Msg.cells_len] at this
 rw [Addr.add_lit, cell_of_row w g _ _ _ _ h, List.getElem?_toArray, show 2 + j = j + 1 + 1 by omega]
 unfold GOp.cells
 rw [List.getElem?_cons_succ, List.getElem?_cons_succ, List.getElem?_append_left (by rw [Msg.cells_len]; exact hj)]
 exact hv
structure GOp.small (o : GOp) : Prop where
 l : o.l.length ≤ 100
 m : o.m.small
 e : o.e.rem.length ≤ 200
structure GOp.fits (o : GOp) : Prop where
 l : o.l.length ≤ 17592186044416
 m : o.m.fits
 e : o.e.rem.length ≤ 8796093022208
def GreatSays22 (l : List GOp) (e : Ending) : Prop := e = .returned (.bool true) ∨ (e = .returned (.bool false) ∧ (∀ o ∈ l, o.small) ∧ l.length ≤ 60)
set_option maxRecDepth 100000 in
set_option maxHeartbeats 8000000 in
theorem great22_any (oa : Option Addr) (cap : Nat) (l : List GOp) (w : World) (h : GOpsAt w (.slice oa l.length cap) l) (hl : l.length ≤ 1099511627776) (hf : ∀ o ∈ l, o.fits) :
  Calls Tryz.prog 7 #[.slice oa l.length cap] w fun e w' => GreatSays22 l e ∧ Below w.heap.size w w' := by
 have HE := Lib.hid h
 have HF := Lib.hid hf
 clear h hf
 go_enter Tryz.func7, Tryz.ntmps7
 go_wp2_with fail
 go_loopg [3, 5, 8] l.length (fun gk s3 s5 s8 wr => ∃ (i n : Nat), s3 = .int .i64 n ∧ s8 = .int .i64 i ∧ i ≤ l.length ∧ l.length - i ≤ gk ∧ n ≤ 1000000 * i ∧ Hid (∀ o ∈ l.take i, o.small) ∧ Hid (Below w.heap.size w wr))
 case atStart => exact ⟨0, 0, rfl, rfl, Nat.zero_le _, Nat.le_refl _, Nat.le_refl _, (by rw [List.take_zero]; intro o ho; cases ho), Below.refl _ _⟩
 case round =>
  obtain ⟨i, n, rfl, rfl, hi, hgk, hn, HNO, HB⟩ := hrel
  by_cases hlt : i < l.length
  ·have hltz : (i : Int) < (l.length : Int) := by omega
   have hsr := HE.out.below HB.out (Nat.le_refl _)
   have hsl := hsr.row
   obtain ⟨bo, off, hbo⟩ := hsl.plain GOp.cells_len (by decide) (by intro e; rw [e] at hlt; exact absurd hlt (by simp))
   subst hbo
   have hld := gop_load hsl hlt
   have hmem : l[i] ∈ l := List.getElem_mem hlt
   have hmi := hsr.ops _ hmem
   have hfi := HF.out _ hmem
   have htk : l.take (i + 1) = l.take i ++ [l[i]] := List.take_succ_eq_append_getElem hlt
   have HTK := Lib.hid htk
   generalize l[i] = o at *
   clear htk hmem hsl hsr
   obtain ⟨kind, ol, ⟨la, ln, lc⟩, m, ev, ⟨ra, rn, rc⟩⟩ := o
   obtain ⟨mk, frm, to_, seq, node, u, more, evs, ms, ⟨ma, mn, mc⟩, ⟨ea, en, ec⟩, ⟨sa, sn, sc⟩⟩ := m
   have hme := hmi.m.evs.1
   have hle := hmi.e
   have hll := hmi.l
   simp only [Hdr.val] at hme hle hll
   obtain rfl : en = evs.length := by obtain ⟨_, _, hv, _⟩ := hme.slice_of; simp only [Value.slice.injEq] at hv; exact hv.2.1
   obtain rfl : rn = ev.rem.length := by obtain ⟨_, _, hv, _⟩ := hle.slice_of; simp only [Value.slice.injEq] at hv; exact hv.2.1
   obtain rfl : ln = ol.length := by obtain ⟨_, _, hv, _⟩ := hll.slice_of; simp only [Value.slice.injEq] at hv; exact hv.2.1
   obtain ⟨A, hA⟩ : ∃ A, A = (GOp.cells ⟨kind, ol, ⟨la, ol.length, lc⟩, ⟨mk, frm, to_, seq, node, u, more, evs, ms, ⟨ma, mn, mc⟩, ⟨ea, evs.length, ec⟩, ⟨sa, sn, sc⟩⟩, ev, ⟨ra, ev.rem.length, rc⟩⟩).toArray := ⟨_, rfl⟩
   rw [← hA] at hld
   obtain ⟨hr, hb1⟩ := gop_lay wr A _ hA
   have hA32 : 32 = A.size := by rw [hA]; rfl
   have hAin : ((Tryz.prog).info? 46).map (·.size) = some A.size := by rw [← hA32]; exact gop_info
   have hA1 : A.all (·.oneCell') = true := by rw [hA]; exact gop_one _
   have HAS := Lib.hid (show zeroOp.size = A.size from hA32)
   have HAI := Lib.hid hAin
   have HA1 := Lib.hid hA1
   obtain ⟨w1, hw1⟩ : ∃ w1, (wr.alloc (.cells zeroOp 46)).setRow wr.heap.size A = w1 := ⟨_, rfl⟩
   rw [hw1] at hr hb1
   unfold zeroOp at hw1
   clear hA hA32 hAin hA1
   have hml := gopMsg_load hr
   have hgr := great17_any _ _ (hmi.m.below hb1 (Nat.le_refl _)) hfi.m
   have HB1 := Lib.hid (HB.out.trans (hb1.mono HB.out.size))
   have hfe : evs.length ≤ 1099511627776 := hfi.m.evs
   have c16 : w1.cell? ⟨wr.heap.size, 16, none⟩ = some (.slice ea evs.length ec) := cell_of_row w1 _ 16 _ _ _ hr
   have hlt1 : wr.heap.size < w1.heap.size := (Array.getElem?_eq_some_iff.1 hr).1
   have e1 := cell_of_row w1 wr.heap.size 1 _ _ _ hr
   have e31 := cell_of_row w1 wr.heap.size 31 _ _ _ hr
   replace e1 : w1.cell? ⟨wr.heap.size, 1, none⟩ = some (.slice la ol.length lc) := e1
   replace e31 : w1.cell? ⟨wr.heap.size, 31, none⟩ = some (.slice ra ev.rem.length rc) := e31
   clear hb1 hmi hfi hme hle hll hr
   dsimp only [GOp.cells, Msg.cells, Hdr.val, pcells, evCells, List.cons_append, List.nil_append] at hld hml hgr
   have HLD := Lib.hid hld
   have HML := Lib.hid hml
   have HGR := Lib.hid hgr
   have HW1 := Lib.hid hw1
   have hsum : (n : Int) + (evs.length : Int) ≤ 9223372036854775807 := by omega
   have hsum0 : (0 : Int) ≤ (n : Int) + (evs.length : Int) := by omega
   clear hld hml hgr hw1
   as_aux_lemma =>
   go_upto_region 5 with (first | (refine wpList_loadAgg _ rfl 46 _ rfl 32 (op32a _) (op32b _) ⟨bo, off + i * 32, none⟩ rfl _ HLD.out ?_) | (refine wpList_storeRow _ rfl rfl 46 (.tmp 5) (.tmp 11) rfl wr.heap.size _ A rfl rfl (heap_alloc_new wr _) HAI.out HAS.out HA1.out ?_))
   rw [HW1.out]
   clear HLD HW1
   go_wp2_with (refine wpList_loadAgg _ rfl 38 _ rfl 16 (msg16a _) (msg16b _) ⟨wr.heap.size, 2, none⟩ rfl _ HML.out ?_)
   refine HGR.out.mono ?_
   as_aux_lemma =>
   rintro e w5 ⟨rfl, hb5⟩
   have d1 : w5.cell? ⟨wr.heap.size, 1, none⟩ = some (.slice la ol.length lc) := (hb5.cell (p := ⟨wr.heap.size, 1, none⟩) hlt1).trans e1
   have d31 : w5.cell? ⟨wr.heap.size, 31, none⟩ = some (.slice ra ev.rem.length rc) := (hb5.cell (p := ⟨wr.heap.size, 31, none⟩) hlt1).trans e31
   have HB5 := Lib.hid (HB1.out.trans (hb5.mono HB1.out.size))
   clear hb5 HGR HB1 HML e1 e31 c16
   by_cases hbig : Msg.great ⟨mk, frm, to_, seq, node, u, more, evs, ms, ⟨ma, mn, mc⟩, ⟨ea, evs.length, ec⟩, ⟨sa, sn, sc⟩⟩
   ·as_aux_lemma =>
    rw [decide_eq_true hbig]
    clear hbig
    go_wp2_with fail
    go_ret
    exact ⟨.inl rfl, HB5.out⟩
   ·as_aux_lemma =>
    rw [decide_eq_false hbig]
    have HBG := Lib.hid hbig
    have hev3 : evs.length ≤ 3000 := (Msg.small_of hbig).evs
    clear hbig
    by_cases h200 : (200 : Int) < (ev.rem.length : Int)
    ·as_aux_lemma =>
     go_wp2_with fail
     go_ret
     exact ⟨.inl rfl, HB5.out⟩
    by_cases h100 : (100 : Int) < (ol.length : Int)
    ·as_aux_lemma =>
     go_wp2_with fail
     go_ret
     exact ⟨.inl rfl, HB5.out⟩
    as_aux_lemma =>
    have hsm : GOp.small ⟨kind, ol, ⟨la, ol.length, lc⟩, ⟨mk, frm, to_, seq, node, u, more, evs, ms, ⟨ma, mn, mc⟩, ⟨ea, evs.length, ec⟩, ⟨sa, sn, sc⟩⟩, ev, ⟨ra, ev.rem.length, rc⟩⟩ := ⟨by show ol.length ≤ 100; omega, Msg.small_of HBG.out, by show ev.rem.length ≤ 200; omega⟩
    have HSM := Lib.hid hsm
    clear hsm HBG
    go_wp2_with fail
    go_roundg (l.length - (i + 1))
    case measure => omega
    case rel => exact ⟨i + 1, n + evs.length, by go_num, by go_num, by omega, Nat.le_refl _, by omega, (by
     rw [HTK.out]
     intro o ho
     rcases List.mem_append.1 ho with ho | ho
     ·exact HNO.out o ho
     ·rw [List.mem_singleton] at ho
      rw [ho]
      exact HSM.out), HB5.out⟩
  ·as_aux_lemma =>
   have hltz : ¬ (i : Int) < (l.length : Int) := by omega
   have hin : i = l.length := by omega
   rw [hin, List.take_length] at HNO
   have HEN := Lib.hid hin
   clear hin
   by_cases h60 : (60 : Int) < (l.length : Int)
   ·go_wp2_with fail
    go_ret
    exact ⟨.inl rfl, HB.out⟩
   ·by_cases h300 : (300 : Int) < (n : Int)
    ·go_wp2_with fail
     go_ret
     exact ⟨.inl rfl, HB.out⟩
    ·go_wp2_with fail
     go_ret
     exact ⟨.inr ⟨rfl, HNO.out, by omega⟩, HB.out⟩
end Go.Proofs.YtenkfnhcdfmkaaaGreat
