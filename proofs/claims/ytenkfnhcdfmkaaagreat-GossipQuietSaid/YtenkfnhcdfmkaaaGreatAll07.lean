/-
  The reference's All where both sides are the same.
-/
import Derived.Test.YtenkfnhcdfmkaaaGreatRef07
import Derived.Shelf.SlSortCmp.KitK
namespace Go.Proofs.YtenkfnhcdfmkaaaGreat
open Go.Shelf Go.RowKit Go.Lib Go.Sort
set_option linter.unusedVariables false
theorem SlAt.load {α : Type} {enc : α → List Value} {k : Nat} (hk : ∀ x, (enc x).length = k) {P : Program} {w : World} {b off n cap : Nat} {l : List α} (h : SlAt enc w (.slice (some ⟨b, off, none⟩) n cap) l) {i : Nat} {x : α} (hx : l[i]? = some x) : Sem.run P (loadCellsFrom ⟨b, off + i * k, none⟩ 0 k #[]) w = .ok (enc x).toArray w :=
 run_loadCellsFrom_list P _ _ _ k (hk _) fun j v hv => by
  obtain ⟨hi, rfl⟩ := List.getElem?_eq_some_iff.1 hx
  have hj : j < k := by rw [← hk l[i]]; exact (List.getElem?_eq_some_iff.1 hv).1
  rw [Addr.add_lit, show off + i * k + j = off + (i * k + j) by omega, h.cell hk hi hj]; exact hv
set_option maxHeartbeats 8000000 in
theorem all_any (oa ob : Option Addr) (ca cb : Nat) (ps qs : List PEv) (w : World) (h1 : EvsAt w (.slice oa ps.length ca) ps) (h2 : EvsAt w (.slice ob ps.length cb) qs) (he : ps.map (·.2) = qs.map (·.2)) (hl : ps.length ≤ 1000000) (hr : ∀ p ∈ ps, p.2.rem.length ≤ 1000000) :
  Calls Tryz.prog 24 #[.slice oa ps.length ca, .slice ob ps.length cb] w fun e w' => e = .returned (.bool true) ∧ Grew w w' := by
 have hlen : qs.length = ps.length := by have := congrArg List.length he; simpa using this.symm
 have H1 := Lib.hid h1
 have H2 := Lib.hid h2
 have HE := Lib.hid he
 have HR := Lib.hid hr
 clear h1 h2 he hr
 go_enter Tryz.func24, Tryz.ntmps24
 go_wp2_with fail
 go_loopg [13] ps.length (fun gk s13 wr => ∃ (i : Nat), s13 = .int .i64 i ∧ i ≤ ps.length ∧ ps.length - i ≤ gk ∧ Hid (Grew w wr))
 case atStart => exact ⟨0, rfl, Nat.zero_le _, Nat.le_refl _, Grew.refl _⟩
 case round =>
  obtain ⟨i, rfl, hi, hg, HG⟩ := hrel
  by_cases hlt : i < ps.length
  ·have hltz : (i : Int) < (ps.length : Int) := by omega
   have hsl : EvsAt wr (.slice oa ps.length ca) ps := H1.out.below HG.out.below (Nat.le_refl _)
   have hsl2 : EvsAt wr (.slice ob ps.length cb) qs := H2.out.below HG.out.below (Nat.le_refl _)
   obtain ⟨b, off, rfl⟩ := slAt_some hsl.1 i hlt
   obtain ⟨b2, off2, rfl⟩ := slAt_some hsl2.1 i (by omega)
   obtain ⟨ra, rn, rc, ev, hp, c0, c1, c2, c3, c4, c5, c6, c7, c8, c9, c10, c11, c12, c13⟩ := hsl.1.ev i hlt
   obtain ⟨ra2, rn2, rc2, ev2, hp2, k0, k1, k2, k3, k4, k5, k6, k7, k8, k9, k10, k11, k12, k13⟩ := hsl2.1.ev i (by omega)
   obtain rfl : ev = ev2 := by
    have e := congrArg (fun l => l[i]?) HE.out
    simp only [List.getElem?_map, hp, hp2, Option.map_some] at e
    exact Option.some.inj e
   have hm1 := List.mem_of_getElem? hp
   have hm2 := List.mem_of_getElem? hp2
   have hgw : ∀ n' os', Grew wr (grow (wr.drewN n') os') := fun n' os' => ⟨n', os', rfl⟩
   have hs := fun n' os' => same_any ⟨ra, rn, rc⟩ ⟨ra2, rn2, rc2⟩ ev (grow (wr.drewN n') os') ((hsl.2 _ hm1).below Dot.cells_len (by decide) (hgw n' os').below (Nat.le_refl _)) ((hsl2.2 _ hm2).below Dot.cells_len (by decide) (hgw n' os').below (Nat.le_refl _)) (HR.out _ hm1)
   have lb1 : b < wr.heap.size := World.block_lt_of_cell? wr _ c0
   have lb2 : b2 < wr.heap.size := World.block_lt_of_cell? wr _ k0
   replace c0 := cell_grown lb1 c0
   replace c1 := cell_grown lb1 c1
   replace c2 := cell_grown lb1 c2
   replace c3 := cell_grown lb1 c3
   replace c4 := cell_grown lb1 c4
   replace c5 := cell_grown lb1 c5
   replace c6 := cell_grown lb1 c6
   replace c7 := cell_grown lb1 c7
   replace c8 := cell_grown lb1 c8
   replace c9 := cell_grown lb1 c9
   replace c10 := cell_grown lb1 c10
   replace c11 := cell_grown lb1 c11
   replace c12 := cell_grown lb1 c12
   replace c13 := cell_grown lb1 c13
   replace k0 := cell_grown lb2 k0
   replace k1 := cell_grown lb2 k1
   replace k2 := cell_grown lb2 k2
   replace k3 := cell_grown lb2 k3
   replace k4 := cell_grown lb2 k4
   replace k5 := cell_grown lb2 k5
   replace k6 := cell_grown lb2 k6
   replace k7 := cell_grown lb2 k7
   replace k8 := cell_grown lb2 k8
   replace k9 := cell_grown lb2 k9
   replace k10 := cell_grown lb2 k10
   replace k11 := cell_grown lb2 k11
   replace k12 := cell_grown lb2 k12
   replace k13 := cell_grown lb2 k13
   simp only [pcells, evCells, Hdr.val] at hs
   have HS := Lib.hid hs
   clear hsl hsl2 hp hp2 hm1 hm2 hs hgw
   have hmx : Tryz.prog.follows .mixedOrders = true := by kernel_rfl
   go_wp2_with fail
   go_quiet_grown (first | (go_at_call 71; refine Calls.grown_of (HS.out _ _)))
   go_wp2_with fail
   go_roundg (ps.length - (i + 1))
   case measure => omega
   case rel => exact ⟨i + 1, by go_num, by omega, Nat.le_refl _, HG.out.trans ⟨nq, osq, rfl⟩⟩
  ·have hltz : ¬ (i : Int) < (ps.length : Int) := by omega
   obtain rfl : i = ps.length := by omega
   go_wp2_with fail
   go_ret
   exact ⟨rfl, HG.out⟩
end Go.Proofs.YtenkfnhcdfmkaaaGreat
