/-
  rank.Order: the nodes that there may be, each once, by their weights, the heaviest first.
-/
import Derived.Test.YtjgbflclhkeibaaGreatMMix
import Derived.Test.YtjgbflclhkeibaaGreatMIntRow
import Derived.Deep.QuietTactic
import Derived.BigQuiet
namespace Go.Proofs.YtjgbflclhkeibaaGreat
open Go.Shelf Go.RowKit Go.Lib Go.Sort
set_option linter.unusedVariables false
def outside (x : Int) : Bool := decide (x < 0) || decide (8 ≤ x)
theorem outside_false (x : Int) : outside x = false ↔ 0 ≤ x ∧ x < 8 := by
  unfold outside
  simp only [Bool.or_eq_false_iff, decide_eq_false_iff_not]
  omega
set_option maxHeartbeats 1000000 in
theorem pred_any (W : World) (x : Int) : FnGives Tryz.prog 72 #[] #[.int .i64 x] (.bool (outside x)) W := by
  show Calls Tryz.prog 72 #[.int .i64 x] W _
  by_cases h0 : x < 0
  · have e : outside x = true := by unfold outside; rw [decide_eq_true h0]; rfl
    rw [e]
    go_enter Tryz.func72, Tryz.ntmps72
    go_wp2_with fail
    go_ret
    exact ⟨rfl, 0, rfl⟩
  · have e : outside x = decide (8 ≤ x) := by unfold outside; rw [decide_eq_false h0]; rfl
    rw [e]
    go_enter Tryz.func72, Tryz.ntmps72
    go_wp2_with fail
    go_ret
    exact ⟨rfl, 0, rfl⟩
/-- the captured workload and salt -/
structure Salted (work salt : Int) (bw bs : Nat) (W : World) : Prop where
  work : W.cell? ⟨bw, 0, none⟩ = some (.int .i64 work)
  salt : W.cell? ⟨bs, 0, none⟩ = some (.int .u64 salt)
  lw : bw < W.heap.size
  ls : bs < W.heap.size
theorem Salted.onto {work salt : Int} {bw bs : Nat} {W W' : World} (h : Salted work salt bw bs W) (ho : Onto W W') : Salted work salt bw bs W' :=
  ⟨(ho.below.cell h.lw).trans h.work, (ho.below.cell h.ls).trans h.salt, Nat.lt_of_lt_of_le h.lw ho.below.size, Nat.lt_of_lt_of_le h.ls ho.below.size⟩
set_option maxHeartbeats 1000000 in
theorem heft_any (work salt : Int) (h0 : 0 ≤ salt) (h1 : salt < 18446744073709551616) (bw bs : Nat) (node : Int) (W : World) (h : Salted work salt bw bs W) :
    Calls Tryz.prog 75 #[.int .i64 node, .pointer (some ⟨bw, 0, none⟩), .pointer (some ⟨bs, 0, none⟩)] W fun e w' => e = .returned (.int .u64 (weightI node work salt)) ∧ Onto W w' := by
  have c0 := h.work
  have c1 := h.salt
  have hw := weight_any node work salt h0 h1 W
  have HW := Lib.hid hw
  clear hw h
  go_enter Tryz.func75, Tryz.ntmps75
  go_wp2_with fail
  refine HW.out.mono ?_
  rintro e w1 ⟨rfl, ho⟩
  have HO := Lib.hid ho
  clear ho HW
  go_wp2_with fail
  go_ret
  exact ⟨rfl, HO.out⟩
theorem heft_grew (work salt : Int) (h0 : 0 ≤ salt) (h1 : salt < 18446744073709551616) (bw bs : Nat) (node : Int) (W : World) (h : Salted work salt bw bs W) :
    Calls Tryz.prog 75 #[.int .i64 node, .pointer (some ⟨bw, 0, none⟩), .pointer (some ⟨bs, 0, none⟩)] W fun e w' => e = .returned (.int .u64 (weightI node work salt)) ∧ ∃ q os', w' = grow (W.drewN q) os' :=
  (heft_any work salt h0 h1 bw bs node W h).mono fun e w' hh => ⟨hh.1, hh.2.grew⟩
def cmpW (wt : Int → Int) (x y : Int) : Int := if wt y < wt x then -1 else if wt x < wt y then 1 else 0
theorem ltOf_cmpW (wt : Int → Int) : ltOf (cmpW wt) = heavier wt := by
  funext x y
  unfold ltOf cmpW heavier
  by_cases h : wt y < wt x
  · simp [h]
  · by_cases h2 : wt x < wt y
    · simp [h, h2]
    · simp [h, h2]
set_option maxRecDepth 100000 in
set_option maxHeartbeats 2000000 in
theorem cmp_any (work salt : Int) (h0 : 0 ≤ salt) (h1 : salt < 18446744073709551616) (bw bs bf : Nat) (x y : Int) (W : World) (h : Salted work salt bw bs W) (hf : W.cell? ⟨bf, 0, none⟩ = some (.func (.func 75) #[] #[.pointer (some ⟨bw, 0, none⟩), .pointer (some ⟨bs, 0, none⟩)])) (hfl : bf < W.heap.size) :
    Calls Tryz.prog 78 #[.int .i64 x, .int .i64 y, .pointer (some ⟨bf, 0, none⟩)] W fun e w' => e = .returned (.int .i64 (cmpW (fun n => weightI n work salt) x y)) ∧ Onto W w' := by
  have eg : ∀ args w, (callFunc 75 args).run Tryz.prog w = .ok (.enter 75 args) w := enters_of Tryz.func75 (by kernel_rfl) rfl
  have hx' := fun n os => heft_grew work salt h0 h1 bw bs x (grow (W.drewN n) os) (h.onto ((Onto.refl W).grow n os))
  have hy' := fun n os => heft_grew work salt h0 h1 bw bs y (grow (W.drewN n) os) (h.onto ((Onto.refl W).grow n os))
  have f0 := cell_grown hfl hf
  have hmx : Tryz.prog.follows .mixedOrders = true := by kernel_rfl
  have hcf : cmpW (fun n => weightI n work salt) x y = if weightI y work salt < weightI x work salt then -1 else if weightI x work salt < weightI y work salt then 1 else 0 := rfl
  rw [hcf]
  clear h hcf
  generalize weightI x work salt = wx at *
  generalize weightI y work salt = wy at *
  have HX := Lib.hid hx'
  have HY := Lib.hid hy'
  have HF := Lib.hid hf
  clear hx' hy' hf
  have fin : ∀ n os, Onto W (grow (W.drewN n) os) := fun n os => (Onto.refl W).grow n os
  have FIN := Lib.hid fin
  clear fin
  by_cases h2 : wy < wx
  · go_enter Tryz.func78, Tryz.ntmps78
    go_wp2_with fail
    go_quiet_grown (first | (go_at_fn 75; first | refine Calls.grown_of (HX.out _ _) | refine Calls.grown_of (HY.out _ _)))
    go_wp2_with fail
    go_ret
    exact ⟨rfl, FIN.out _ _⟩
  · by_cases h3 : wx < wy
    · go_enter Tryz.func78, Tryz.ntmps78
      go_wp2_with fail
      go_quiet_grown (first | (go_at_fn 75; first | refine Calls.grown_of (HX.out _ _) | refine Calls.grown_of (HY.out _ _)))
      go_wp2_with fail
      go_ret
      exact ⟨rfl, FIN.out _ _⟩
    · go_enter Tryz.func78, Tryz.ntmps78
      go_wp2_with fail
      go_quiet_grown (first | (go_at_fn 75; first | refine Calls.grown_of (HX.out _ _) | refine Calls.grown_of (HY.out _ _)))
      go_wp2_with fail
      go_ret
      exact ⟨rfl, FIN.out _ _⟩
end Go.Proofs.YtjgbflclhkeibaaGreat
