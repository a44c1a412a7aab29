/-
  window.Of: the newest samples of one node, each with a clone of its own slice, in new memory.
-/
import Derived.Test.YtjgbflclhkeibaaGreatMSortSt
import Derived.Test.YtjgbflclhkeibaaGreatMAcc
import Derived.Test.YtjgbflclhkeibaaGreatMOrd
namespace Go.Proofs.YtjgbflclhkeibaaGreat
open Go.Shelf Go.RowKit Go.Lib Go.Sort
set_option linter.unusedVariables false

def OfPost (ps : List PEv) (work node size : Int) (w : World) (e : Ending) (w' : World) : Prop :=
  ∃ v qs, e = .returned v ∧ qs.length ≤ ps.length ∧ qs.map (·.2) = winOf (ps.map (·.2)) work node size ∧ Acc w.heap.size 74 71 w' v qs ∧ Below w.heap.size w w'

set_option maxHeartbeats 8000000 in
theorem of_any (oa : Option Addr) (cap : Nat) (ps : List PEv) (work node size : Int) (w : World) (h : EvsAt w (.slice oa ps.length cap) ps) (hl : ps.length ≤ 1000000) (hr : ∀ p ∈ ps, p.2.rem.length ≤ 1000000) :
    Calls Tryz.prog 83 #[.slice oa ps.length cap, .int .i64 work, .int .i64 node, .int .i64 size] w (OfPost ps work node size w) := by
  have HE := Lib.hid h
  have HR := Lib.hid hr
  clear h hr
  go_enter Tryz.func83, Tryz.ntmps83
  go_wp2_with fail
  go_loopg [9, 15] ps.length (fun gk s5 s13 wr => ∃ (i : Nat) (oq : Option Addr) (cq : Nat) (qs : List PEv), s13 = .int .i64 i ∧ s5 = .slice oq qs.length cq ∧ i ≤ ps.length ∧ ps.length - i ≤ gk ∧ qs.length ≤ i ∧ Hid (Acc w.heap.size 74 71 wr (.slice oq qs.length cq) qs) ∧ Hid (qs.map (·.2) = ((ps.take i).map (·.2)).filter (isSample work node)) ∧ Hid (Below w.heap.size w wr))
  case atStart => exact ⟨0, none, 0, [], rfl, rfl, Nat.zero_le _, Nat.le_refl _, Nat.le_refl _, Acc.nil _ _ _ _, by show _ = _; simp, Below.refl _ _⟩
  case round =>
    obtain ⟨i, oq, cq, qs, rfl, rfl, hi, hg, hqi, HO, HQ, HB⟩ := hrel
    by_cases hlt : i < ps.length
    · have hltz : (i : Int) < (ps.length : Int) := by omega
      have hsl : SlAt pcells wr (.slice oa ps.length cap) ps := HE.out.1.below pcells_len (by decide) HB.out (Nat.le_refl _)
      obtain ⟨b, off, rfl⟩ := slAt_some hsl i hlt
      obtain ⟨ra, rn, rc, ev, hp, c0, c1, c2, c3, c4, c5, c6, c7, c8, c9, c10, c11, c12, c13⟩ := hsl.ev i hlt
      have hmem : (⟨⟨ra, rn, rc⟩, ev⟩ : PEv) ∈ ps := List.mem_of_getElem? hp
      have hrem : SlAt Dot.cells wr (.slice ra rn rc) ev.rem := (HE.out.2 _ hmem).below Dot.cells_len (by decide) HB.out (Nat.le_refl _)
      have hrl : ev.rem.length ≤ 1000000 := HR.out _ hmem
      have htf := take_filter (isSample work node) ps i _ hp
      have HREM := Lib.hid hrem
      have HTF := Lib.hid htf
      clear hsl hp hmem hrem htf
      by_cases hk : (ev.kind == 1) = true
      · by_cases hw : (ev.work == work) = true
        · by_cases hn : (ev.dot.node == node) = true
          · have his : Hid (isSample work node ev = true) := by show _ = _; unfold isSample; rw [hk, hw, hn]; rfl
            go_wp2_with fail
            refine (cloneDot_any _ ev.rem _ (HREM.out.below Dot.cells_len (by decide) ((Below.refl _ _).alloc (Nat.le_refl _) _) (Nat.le_refl _)) hrl).mono ?_
            rintro e w1 ⟨⟨ha, hn, hc⟩, rfl, hown, hb⟩
            obtain ⟨hcell, hfr⟩ := bcell hb
            have hz : wr.heap.size < w1.heap.size := by have := hb.size; simp at this; omega
            have HOWN := Lib.hid hown
            have HB1 := Lib.hid hb
            clear hown hb
            simp only [Hdr.val]
            go_wp2_with (at_builtin; go_loud (refine wpList_app pcells 14 pcells_len (by decide) pcells_one _ rfl _ _ 36 rfl w.heap.size 74 _ 128 Tryz.underlying36 infoEv rfl _ qs rfl ?h1 _ [(⟨ha, hn, hc⟩, ev)] rfl ?h2 ?h3 ?h4 ?h5 ?_))
            case h1 => exact HO.out.row.below (round_below rfl HB1.out) (Nat.le_refl _)
            case h2 =>
              have hn := slAt_new (enc := pcells) (w1.setCell ⟨wr.heap.size, 13, none⟩ (.slice ha hn hc)) (pcells (⟨ha, hn, hc⟩, ev)).toArray 74 1 1 (0, 0) [(⟨ha, hn, hc⟩, ev)] rfl rfl (by decide)
              rw [World.size_setCell] at hn
              exact hn
            case h3 => simp only [List.length_cons, List.length_nil]; omega
            case h4 => simp only [List.length_cons, List.length_nil]; omega
            case h5 => exact Nat.le_trans HB.out.size (round_below rfl HB1.out).size
            intro v' w' hown2 hg2 hv2
            obtain ⟨hacc, hbb⟩ := acc_round rfl HB.out.size HO.out HB1.out HOWN.out hown2 hg2 hv2
            obtain ⟨oq', cq', hv'⟩ := slAt_slice hown2.at
            rw [hv'] at hacc ⊢
            have HACC := Lib.hid hacc
            have HBB := Lib.hid hbb
            clear hacc hbb hown2 hg2 hv2 hcell hfr
            go_wp2_with fail
            go_roundg (ps.length - (i + 1))
            case measure => omega
            case rel => exact ⟨i + 1, oq', cq', qs ++ [((⟨ha, hn, hc⟩ : Hdr), ev)], by go_num, rfl, by omega, Nat.le_refl _, by simp only [List.length_append, List.length_cons, List.length_nil]; omega, HACC, by show _ = _; rw [HTF.out, his.out, List.map_append, HQ.out]; rfl, HB.out.trans HBB.out⟩
          · have hn' : (ev.dot.node == node) = false := by simpa using hn
            have his : Hid (isSample work node ev = false) := by show _ = _; unfold isSample; rw [hn', Bool.and_false]
            clear hn
            go_wp2_with fail
            go_roundg (ps.length - (i + 1))
            case measure => omega
            case rel => exact ⟨i + 1, oq, cq, qs, by go_num, rfl, by omega, Nat.le_refl _, by omega, HO.out.below ((Below.refl _ _).alloc (Nat.le_refl _) _) (Nat.le_refl _), by show _ = _; rw [HTF.out, his.out, HQ.out]; simp, HB.out.trans ((Below.refl _ _).alloc HB.out.size _)⟩
        · have hw' : (ev.work == work) = false := by simpa using hw
          have his : Hid (isSample work node ev = false) := by show _ = _; unfold isSample; rw [hw', Bool.and_false, Bool.false_and]
          clear hw
          go_wp2_with fail
          go_roundg (ps.length - (i + 1))
          case measure => omega
          case rel => exact ⟨i + 1, oq, cq, qs, by go_num, rfl, by omega, Nat.le_refl _, by omega, HO.out.below ((Below.refl _ _).alloc (Nat.le_refl _) _) (Nat.le_refl _), by show _ = _; rw [HTF.out, his.out, HQ.out]; simp, HB.out.trans ((Below.refl _ _).alloc HB.out.size _)⟩
      · have hk' : (ev.kind == 1) = false := by simpa using hk
        have his : Hid (isSample work node ev = false) := by show _ = _; unfold isSample; rw [hk', Bool.false_and, Bool.false_and]
        clear hk
        go_wp2_with fail
        go_roundg (ps.length - (i + 1))
        case measure => omega
        case rel => exact ⟨i + 1, oq, cq, qs, by go_num, rfl, by omega, Nat.le_refl _, by omega, HO.out.below ((Below.refl _ _).alloc (Nat.le_refl _) _) (Nat.le_refl _), by show _ = _; rw [HTF.out, his.out, HQ.out]; simp, HB.out.trans ((Below.refl _ _).alloc HB.out.size _)⟩
    · have hltz : ¬ (i : Int) < (ps.length : Int) := by omega
      obtain rfl : i = ps.length := by omega
      have hq2 : Hid (qs.map (·.2) = (ps.map (·.2)).filter (isSample work node)) := by show _ = _; rw [HQ.out, List.take_length]
      have eg : ∀ args w, (callFunc 100 args).run Tryz.prog w = .ok (.enter 100 args) w := enters_of Tryz.func100 (by kernel_rfl) rfl
      have hsort := sortStableEv pcells pcells_len pcells_one cmpNewer swo_newer 100 #[] w.heap.size 74 _ qs wr eg (fun W x y => newer_any x y W) HO.out.row (by omega)
      have HS := Lib.hid hsort
      clear hsort eg
      go_wp2_with fail
      refine HS.out.mono ?_
      rintro e w1 ⟨rfl, ls, hso, hll, hown, hg⟩
      have hacc : Acc w.heap.size 74 71 w1 (.slice oq qs.length cq) ls := HO.out.perm hown hg (stab_mem swo_newer hso.2)
      have hb1 : Below w.heap.size w w1 := HB.out.grown hg HB.out.size fun k hk => (HO.out.row.lt k hk).1
      have hst : ls.map (·.2) = samples (ps.map (·.2)) work node := by unfold samples; rw [← hq2.out]; exact stSort_eq swo_newerE (stable_map (fun x y => by rw [ltOf_newer]; rfl) hso)
      have hcap : qs.length ≤ cq := by obtain ⟨_, _, hv, hc⟩ := hacc.row.at.slice_of; simp only [Value.slice.injEq] at hv; omega
      have hres : OfPost ps work node size w (.returned (.slice oq (cutN size qs.length) cq)) w1 := by
        have hle := cutN_le size qs.length
        refine ⟨_, ls.take (cutN size qs.length), rfl, by rw [List.length_take]; omega, ?_, ?_, hb1⟩
        · rw [List.map_take, hst]; unfold winOf; rw [← hst, List.length_map, hll]
        · exact hacc.take _ (by omega)
      have hw0 := within_any size 0 qs.length
      have hnil : oq = none → cq = 0 := by
        obtain ⟨oa', c', hv, _, hn, _⟩ := hacc.row.at
        simp only [Value.slice.injEq] at hv
        obtain ⟨rfl, _, rfl⟩ := hv
        exact hn
      have hle := cutN_le size qs.length
      rw [← cutN_cast] at hw0
      have HW0 := Lib.hid hw0
      have HRES := Lib.hid hres
      clear hacc hb1 hst hso hown hg HO HB HQ hq2 HS hqi hw0 hres
      generalize cutN size qs.length = k at *
      go_wp2_with fail
      refine (HW0.out _).mono ?_
      rintro e w' ⟨rfl, rfl⟩
      cases oq with
      | none =>
        obtain rfl := hnil rfl
        obtain rfl : k = 0 := by omega
        go_wp2_with fail
        go_ret
        exact HRES.out
      | some a =>
        clear hnil
        go_wp2_with fail
        go_ret
        exact HRES.out
end Go.Proofs.YtjgbflclhkeibaaGreat
