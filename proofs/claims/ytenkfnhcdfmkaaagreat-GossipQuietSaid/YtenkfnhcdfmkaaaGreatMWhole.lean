/-
  A block stored over whole; what an array's cells are behind many stores. No function of the program is entered.
  An event's numbers as bytes: the writer.
  What was given up by is caught: where nothing was, all stays as it is.
-/
import Derived.Test.YtenkfnhcdfmkaaaGreatMRd
import Derived.Laws.IdiomCopy
import Derived.Shelf.SlicesQ.Load
import Derived.Test.YtenkfnhcdfmkaaaGreatCrc
import Derived.Test.YtenkfnhcdfmkaaaGreatMSwimP
import Derived.Deep.DeepCutAuto
import Derived.Deep.RegionHeld
import Derived.Defers
import Derived.Recover
namespace Go.Proofs.YtenkfnhcdfmkaaaGreat
open Go.RowKit Go.Lib
set_option linter.unusedVariables false
theorem heap_cellSame (w : World) (g o : Nat) (cur : Array Value) (t : TypeId) (v : Value) (h : w.heap[g]? = some (.cells cur t)) : (w.setCell ⟨g, o, none⟩ v).heap[g]? = some (.cells (cur.setIfInBounds o v) t) := by
 simp only [World.setCell, Array.getElem?_modify, if_pos, h, Option.map_some]
 rfl
theorem run_loadVarAgg {P : Program} {t : TypeId} {p : Addr} {n : Nat} {vs : Array Value} {w : World} (hA : (isAgg t).run P w = .ok true w) (hz : (Go.sizeOf t).run P w = .ok n w) (hl : (loadCellsFrom p 0 n #[]).run P w = .ok vs w) : (loadVar t p).run P w = .ok (.agg vs) w := by
 simp only [loadVar, loadCells, Sem.run_bind, Sem.run_pure, Result.andThen_ok, hA, hz, hl, if_true]
theorem run_results_cell {P : Program} {fn : Func} {k : Nat} {t : TypeId} (hf : fn.results = #[.cell k t]) {tmps : Array Value} {p : Addr} (hp : tmps[k]?.getD undef = .pointer (some p)) {w : World} {v : Value} (hl : (loadVar t p).run P w = .ok v w) : (results fn tmps).run P w = .ok v w := by
 unfold results
 rw [hf]
 simp [hp, asAddr, hl]
theorem load_whole {w : World} {g n : Nat} {cs : Array Value} {t : TypeId} (h : w.heap[g]? = some (.cells cs t)) (hn : cs.size = n) : Sem.run Tryz.prog (loadCellsFrom ⟨g, 0, none⟩ 0 n #[]) w = .ok cs w := by
 have := run_loadCellsFrom_list Tryz.prog w ⟨g, 0, none⟩ cs.toList n (by rw [Array.length_toList]; exact hn) (fun i v hi => by
  rw [Addr.add_lit, Nat.zero_add, cell_of_row w g _ _ _ _ h]
  rw [Array.getElem?_toList] at hi
  exact hi)
 rw [Array.toArray_toList] at this
 exact this
end Go.Proofs.YtenkfnhcdfmkaaaGreat
namespace Go.Proofs.YtenkfnhcdfmkaaaGreat
open Go.RowKit Go.Lib
set_option linter.unusedVariables false
set_option linter.unusedSimpArgs false
def WAt (W : World) (wb : Nat) (l : List Int) : Prop := ∃ o c, W.heap[wb]? = some (.cells #[.slice o l.length c] 235) ∧ Owns ycells 1 (wb + 1) 5 W (.slice o l.length c) l
theorem WAt.lt {W : World} {wb : Nat} {l : List Int} (h : WAt W wb l) : wb < W.heap.size := by
 obtain ⟨o, c, h1, _⟩ := h
 exact (Array.getElem?_eq_some_iff.1 h1).1
set_option maxHeartbeats 4000000 in
theorem number_any (wb : Nat) (l : List Int) (p : Addr) (n : Int) (W : World) (h : WAt W wb l) (hp : W.cell? p = some (.int .i64 n)) (h0 : 0 ≤ n) (h1 : n ≤ 1099511627776) (hl : l.length ≤ 900000) (hpl : p.block < W.heap.size) :
  Calls Tryz.prog 182 #[.pointer (some ⟨wb, 0, none⟩), .pointer (some p)] W fun e w' => e = .returned (.tuple #[]) ∧ ∃ bs, bs.length = vlen n.toNat ∧ WAt w' wb (l ++ bs) ∧ Touch (fun k => k = wb) W w' := by
 have hpx : Tryz.prog.follows .mixedOrders = true := by kernel_rfl
 obtain ⟨o, c, hr, hO⟩ := h
 have hlt : wb < W.heap.size := (Array.getElem?_eq_some_iff.1 hr).1
 have k0 : W.cell? ⟨wb, 0, none⟩ = some (.slice o l.length c) := cell_of_row W _ 0 _ _ _ hr
 have hvp := vintPut_any o c l n h0 h1 W.drew (hO.at.below ycells_len (by decide) (below_drew (Below.refl W.heap.size W)) (Nat.le_refl _)) hl
 have HVP := Lib.hid hvp
 have HR := Lib.hid hr
 clear hvp hr hO
 go_enter Tryz.func182, Tryz.ntmps182
 go_step
 go_step
 go_cut [4, 5] (fun s4 s5 wx => ∃ o2 c2 bs, bs.length = vlen n.toNat ∧ s4 = .slice o2 (l.length + bs.length) c2 ∧ s5 = .int .i64 0 ∧ Hid (Owns ycells 1 (wb + 1) 5 wx (.slice o2 (l.length + bs.length) c2) (l ++ bs)) ∧ Hid (Below W.heap.size W wx))
 case first =>
  go_region_held (fun w' => w'.cell? ⟨wb, 0, none⟩ = some (.slice o l.length c) ∧ w'.cell? p = some (.int .i64 n)) (first | exact ⟨k0, hp⟩ | exact ⟨j0, jp⟩) (first | (go_at_call 171; refine HVP.out.mono ?_; rintro e w7 ⟨o2, c2, bs, hbs, rfl, ho, hb⟩; have HO := Lib.hid ho; have HB := Lib.hid hb; have HBS := Lib.hid hbs; have j0 := (hb.cell (p := ⟨wb, 0, none⟩) hlt).trans k0; have jp := (hb.cell (p := p) hpl).trans hp; clear ho hb hbs))
  all_goals
   go_wp2_with fail
   go_meet
   exact ⟨o2, c2, bs, HBS.out, rfl, rfl, HO.out.lower (by exact hlt), (below_drew (Below.refl _ _)).trans HB.out⟩
 case rest =>
  obtain ⟨o2, c2, bs, hbs, rfl, rfl, HO, HB⟩ := hcut
  have hr2 := (HB.out.block wb hlt).trans HR.out
  have x0 : wc.cell? ⟨wb, 0, none⟩ = some (.slice o l.length c) := cell_of_row wc _ 0 _ _ _ hr2
  have z0 : wc.frozen? ⟨wb, 0, none⟩ = false := by unfold World.frozen?; rw [hr2]; simp
  have hW : WAt (wc.setCell ⟨wb, 0, none⟩ (.slice o2 (l.length + bs.length) c2)) wb (l ++ bs) := by
   refine ⟨o2, c2, ?_, ?_⟩
   ·rw [List.length_append]
    exact heap_cellSame wc wb 0 _ _ _ hr2
   ·rw [List.length_append]
    exact HO.out.keep fun b hb => Below.heap_setCell wc ⟨wb, 0, none⟩ _ b (by have := (HO.out.lt b hb).1; show b ≠ wb; omega)
  have hT := (Touch.of_below (L := fun k => k = wb) HB.out (Nat.le_refl _)).trans (touch_set (fun k => k = wb) wc ⟨wb, 0, none⟩ (.slice o2 (l.length + bs.length) c2) rfl) fun _ _ h => h
  have HW := Lib.hid hW
  have HT := Lib.hid hT
  have HBS := Lib.hid hbs
  clear hr2 hW hT hbs
  go_wp2_with fail
  go_end0
  exact ⟨rfl, bs, HBS.out, HW.out, HT.out⟩
end Go.Proofs.YtenkfnhcdfmkaaaGreat
namespace Go.Proofs.YtenkfnhcdfmkaaaGreat
open Go.RowKit Go.Lib
set_option linter.unusedVariables false
set_option linter.unusedSimpArgs false
theorem eventCaught_idle (p : Addr) (w : World) : CallsD Tryz.prog 181 #[.pointer (some p)] .returning w fun e u' w' => e = .returned (.tuple #[]) ∧ u' = .returning ∧ w' = w := by
 refine callsD_of_wpS Tryz.func181 rfl fun c₀ cs hu => ?_
 apply wpS_seq
 apply wpS_region
 simp [wpOpsS, go_sem, recoverD, hu, Tryz.ntmps181, Exit.thenS]
 refine wpS_of_wp ?_
 go_wp2_with fail
 cases c₀
 simp_all [bodyPostS, results, Tryz.results181]
theorem msgCaught_idle (p : Addr) (w : World) : CallsD Tryz.prog 169 #[.pointer (some p)] .returning w fun e u' w' => e = .returned (.tuple #[]) ∧ u' = .returning ∧ w' = w := by
 refine callsD_of_wpS Tryz.func169 rfl fun c₀ cs hu => ?_
 apply wpS_seq
 apply wpS_region
 simp [wpOpsS, go_sem, recoverD, hu, Tryz.ntmps169, Exit.thenS]
 refine wpS_of_wp ?_
 go_wp2_with fail
 cases c₀
 simp_all [bodyPostS, results, Tryz.results169]
end Go.Proofs.YtenkfnhcdfmkaaaGreat
