/-
  rank.Order and rank.Owner: the nodes that there may be, each once, by their weights, the heaviest first; the first of them.
-/
import Derived.Test.YtjgbflclhkeibaaGreatOrder
import Derived.Laws.EntriesVeiled
namespace Go.Proofs.YtjgbflclhkeibaaGreat
open Go.Shelf Go.RowKit Go.Lib Go.Sort
set_option linter.unusedVariables false
set_option maxHeartbeats 2000000 in
theorem stable_any (cf : Int → Int → Int) (hO : SWO (ltOf cf)) (g : Nat) (cb : Array Value) (eg : ∀ args w, (callFunc g args).run Tryz.prog w = .ok (.enter g args) w)
    (B : Nat) (v : Value) (l : List Int) (w : World) (hcmp : Compares g cb cf v.ownBlock w) (h : Ints B w v l) (hl : l.length ≤ 8) :
    Calls Tryz.prog 96 #[v, .int .i64 l.length, .func (.func g) #[] cb] w fun e w' => e = .returned (.tuple #[]) ∧ ∃ l', stableOf (ltOf cf) l l' ∧ l'.length = l.length ∧ Ints B w' v l' ∧ w.grownBy w' v.ownBlock := by
  have hi := ins_any cf hO g cb eg B v l w hcmp h (by omega)
  have HI := Lib.hid hi
  have hz : ¬ (20 : Int) ≤ (l.length : Int) := by omega
  have hz2 : ¬ (20 : Int) < (l.length : Int) := by omega
  clear hi h hcmp eg hO
  generalize hn : (l.length : Int) = n at *
  go_enter Tryz.func96, Tryz.ntmps96
  go_wp2_with fail
  refine wp_loop_rounds 1 ?_
  rw [rounds_succ]
  go_wp2_with fail
  refine HI.out.mono ?_
  rintro e w1 ⟨rfl, l', h1, h2, h3, h4⟩
  have HR : Hid (stableOf (ltOf cf) l l' ∧ l'.length = l.length ∧ Ints B w1 v l' ∧ w.grownBy w1 v.ownBlock) := ⟨h1, h2, h3, h4⟩
  clear h1 h2 h3 h4 HI
  go_wp2_with fail
  refine wp_loop_rounds 1 ?_
  rw [rounds_succ]
  go_wp2_with fail
  go_end0
  exact ⟨rfl, l', HR.out⟩
set_option maxHeartbeats 2000000 in
theorem sortStable_any (cf : Int → Int → Int) (hO : SWO (ltOf cf)) (g : Nat) (cb : Array Value) (eg : ∀ args w, (callFunc g args).run Tryz.prog w = .ok (.enter g args) w)
    (B : Nat) (v : Value) (l : List Int) (w : World) (hcmp : Compares g cb cf v.ownBlock w) (h : Ints B w v l) (hl : l.length ≤ 8) :
    Calls Tryz.prog 77 #[v, .func (.func g) #[] cb] w fun e w' => e = .returned (.tuple #[]) ∧ ∃ l', stableOf (ltOf cf) l l' ∧ l'.length = l.length ∧ Ints B w' v l' ∧ w.grownBy w' v.ownBlock := by
  have hi := stable_any cf hO g cb eg B v l w hcmp h hl
  obtain ⟨oa, cap, rfl⟩ := slAt_slice h.at
  have HI := Lib.hid hi
  clear hi h hcmp eg hO
  go_enter Tryz.func77, Tryz.ntmps77
  go_wp2_with fail
  refine HI.out.mono ?_
  rintro e w1 ⟨rfl, h1⟩
  have HR := Lib.hid h1
  clear h1 HI
  go_wp2_with fail
  go_end0
  exact ⟨rfl, HR.out⟩
theorem two_old (w : World) (c d : Array Value) (t u o : Nat) : ((w.alloc (.cells c t)).alloc (.cells d u)).cell? ⟨w.heap.size, o, none⟩ = c[o]? := by
  unfold World.cell?
  rw [Below.heap_alloc _ _ _ (by simp), heap_alloc_new]
  rfl
theorem two_new (w : World) (c d : Array Value) (t u o : Nat) : ((w.alloc (.cells c t)).alloc (.cells d u)).cell? ⟨w.heap.size + 1, o, none⟩ = d[o]? := by
  have e : w.heap.size + 1 = (w.alloc (.cells c t)).heap.size := by simp
  unfold World.cell?
  rw [e, heap_alloc_new]
  rfl
/-- what an order leaves, in memory of the call's own -/
def OrderOwn (nodes : List Int) (work salt : Int) (w : World) (e : Ending) (w' : World) : Prop :=
  ∃ oq cq l, e = .returned (.slice oq l.length cq) ∧ Ranks (fun n => weightI n work salt) nodes l ∧ Ints w.heap.size w' (.slice oq l.length cq) l ∧ Below w.heap.size w w'
/-- what an order leaves -/
def OrderPost (nodes : List Int) (work salt : Int) (w : World) (e : Ending) (w' : World) : Prop :=
  ∃ oq cq l, e = .returned (.slice oq l.length cq) ∧ Ranks (fun n => weightI n work salt) nodes l ∧ SlAt icells w' (.slice oq l.length cq) l ∧ Below w.heap.size w w'
set_option maxRecDepth 100000 in
set_option maxHeartbeats 4000000 in
theorem order_own (oa : Option Addr) (cap : Nat) (nodes : List Int) (work salt : Int) (h0 : 0 ≤ salt) (h1 : salt < 18446744073709551616) (w : World) (h : SlAt icells w (.slice oa nodes.length cap) nodes) (hl : nodes.length ≤ 1000000) :
    Calls Tryz.prog 56 #[.slice oa nodes.length cap, .int .i64 work, .int .u64 salt] w (OrderOwn nodes work salt w) := by
  have ep : ∀ args w, (callFunc 72 args).run Tryz.prog w = .ok (.enter 72 args) w := enters_of Tryz.func72 (by kernel_rfl) rfl
  have ec : ∀ args w, (callFunc 78 args).run Tryz.prog w = .ok (.enter 78 args) w := enters_of Tryz.func78 (by kernel_rfl) rfl
  have EP := Lib.hid ep
  have EC := Lib.hid ec
  have hcl := fun W (hW : SlAt icells W (.slice oa nodes.length cap) nodes) => clone_any oa cap nodes W hW hl
  have HCL := Lib.hid hcl
  have HE := Lib.hid h
  clear hcl h ep ec
  go_enter Tryz.func56, Tryz.ntmps56
  go_wp2_with fail
  have hsa : Salted work salt w.heap.size (w.heap.size + 1) ((w.alloc (.cells #[.int .i64 work] 3)).alloc (.cells #[.int .u64 salt] 22)) := ⟨two_old _ _ _ _ _ _, two_new _ _ _ _ _ _, by simp; omega, by simp⟩
  have hob : Onto w ((w.alloc (.cells #[.int .i64 work] 3)).alloc (.cells #[.int .u64 salt] 22)) := ((Onto.refl w).alloc _).alloc _
  generalize (w.alloc (.cells #[.int .i64 work] 3)).alloc (.cells #[.int .u64 salt] 22) = wb at *
  have HSA := Lib.hid hsa
  have HOB := Lib.hid hob
  have hzb : w.heap.size + 1 < wb.heap.size := hsa.ls
  clear hsa hob
  refine (HCL.out _ (HE.out.below icells_len (by decide) HOB.out.below (Nat.le_refl _))).mono ?_
  rintro e w1 ⟨v1, rfl, hi1, hb1⟩
  obtain ⟨o1, c1, rfl⟩ := slAt_slice hi1.at
  have HI1 := Lib.hid hi1
  have HB1 := Lib.hid hb1
  have hd := delete_any outside 72 EP.out pred_any wb.heap.size _ nodes w1 hi1 hl
  have HD := Lib.hid hd
  clear hi1 hb1 hd HCL
  go_wp2_with fail
  refine HD.out.mono ?_
  rintro e w2 ⟨v2, rfl, hi2, hv2, hg2⟩
  obtain ⟨o2, c2, rfl⟩ := slAt_slice hi2.at
  have hfl := List.length_filter_le (fun x => !outside x) nodes
  have HB2 := Lib.hid (HB1.out.grown hg2 HB1.out.size fun k hk => (HI1.out.lt k hk).1)
  have hs := sort_any wb.heap.size _ _ w2 hi2 (by omega)
  have HI2 := Lib.hid hi2
  have HS := Lib.hid hs
  clear hi2 hv2 hg2 hs HD HI1 HB1
  go_wp2_with fail
  refine HS.out.mono ?_
  rintro e w3 ⟨rfl, hi3, hg3⟩
  have HB3 := Lib.hid (HB2.out.grown hg3 HB2.out.size fun k hk => (HI2.out.lt k hk).1)
  have hlm : ((nodes.filter fun x => !outside x).mergeSort fun x y => decide (x ≤ y)).length ≤ 1000000 := by rw [List.length_mergeSort]; omega
  have hc := compact_any wb.heap.size _ _ w3 hi3 hlm
  rw [base_there outside outside_false nodes] at hc
  have HI3 := Lib.hid hi3
  have HC := Lib.hid hc
  clear hi3 hg3 hlm hc HS HI2 HB2
  go_wp2_with fail
  refine HC.out.mono ?_
  rintro e w4 ⟨v4, rfl, hi4, hv4, hg4⟩
  obtain ⟨o4, c4, rfl⟩ := slAt_slice hi4.at
  have HB4 := Lib.hid (HB3.out.grown hg4 HB3.out.size fun k hk => (HI3.out.lt k hk).1)
  have HI4 := Lib.hid hi4
  have htl := there_len nodes
  have HT := Lib.hid htl
  clear hi4 hv4 hg4 htl HC HI3 HB3 hfl
  generalize hth : there nodes = th at *
  have HTH := Lib.hid hth
  clear hth
  go_wp2_with fail
  have hs4 : Salted work salt w.heap.size (w.heap.size + 1) w4 := ⟨(HB4.out.cell HSA.out.lw).trans HSA.out.work, (HB4.out.cell HSA.out.ls).trans HSA.out.salt, by have := HB4.out.size; omega, by have := HB4.out.size; omega⟩
  have hf5 : (w4.alloc (.cells #[.func (.func 75) #[] #[.pointer (some ⟨w.heap.size, 0, none⟩), .pointer (some ⟨w.heap.size + 1, 0, none⟩)]] 128)).cell? ⟨w4.heap.size, 0, none⟩ = some (.func (.func 75) #[] #[.pointer (some ⟨w.heap.size, 0, none⟩), .pointer (some ⟨w.heap.size + 1, 0, none⟩)]) := by unfold World.cell?; rw [heap_alloc_new]; rfl
  have hs5 := hs4.onto ((Onto.refl w4).alloc (.cells #[.func (.func 75) #[] #[.pointer (some ⟨w.heap.size, 0, none⟩), .pointer (some ⟨w.heap.size + 1, 0, none⟩)]] 128))
  have hi5 := HI4.out.below ((Onto.refl w4).alloc (.cells #[.func (.func 75) #[] #[.pointer (some ⟨w.heap.size, 0, none⟩), .pointer (some ⟨w.heap.size + 1, 0, none⟩)]] 128)).below (Nat.le_refl _)
  have hb5 := HB4.out.alloc HB4.out.size (.cells #[.func (.func 75) #[] #[.pointer (some ⟨w.heap.size, 0, none⟩), .pointer (some ⟨w.heap.size + 1, 0, none⟩)]] 128)
  have hz5 : w4.heap.size < (w4.alloc (.cells #[.func (.func 75) #[] #[.pointer (some ⟨w.heap.size, 0, none⟩), .pointer (some ⟨w.heap.size + 1, 0, none⟩)]] 128)).heap.size := by simp
  generalize w4.alloc (.cells #[.func (.func 75) #[] #[.pointer (some ⟨w.heap.size, 0, none⟩), .pointer (some ⟨w.heap.size + 1, 0, none⟩)]] 128) = w5 at *
  have hcm : Compares 78 #[.pointer (some ⟨w4.heap.size, 0, none⟩)] (cmpW fun n => weightI n work salt) (Value.slice o4 th.length c4).ownBlock w5 := fun W hk hsz x y => by
    have hne : ∀ g, (Value.slice o4 th.length c4).ownBlock = some g → wb.heap.size ≤ g ∧ g < w4.heap.size := fun g hg => HI4.out.lt g hg
    have k0 : ∀ k, k < w5.heap.size → (∀ g, (Value.slice o4 th.length c4).ownBlock = some g → g ≠ k) → W.heap[k]? = w5.heap[k]? := fun k hlt hnk => hk k hlt fun e => hnk k e.symm rfl
    have e0 := k0 w.heap.size hs5.lw fun g hg => by have := hne g hg; omega
    have e1 := k0 (w.heap.size + 1) hs5.ls fun g hg => by have := hne g hg; omega
    have e2 := k0 w4.heap.size hz5 fun g hg => by have := hne g hg; omega
    exact cmp_any work salt h0 h1 w.heap.size (w.heap.size + 1) w4.heap.size x y W ⟨(World.cell?_of_block e0).trans hs5.work, (World.cell?_of_block e1).trans hs5.salt, by have := hs5.lw; omega, by have := hs5.ls; omega⟩ ((World.cell?_of_block e2).trans hf5) (by omega)
  have hso := sortStable_any (cmpW fun n => weightI n work salt) (by rw [ltOf_cmpW]; exact swo_heavier _) 78 #[.pointer (some ⟨w4.heap.size, 0, none⟩)] EC.out wb.heap.size _ th w5 hcm hi5 HT.out
  have HSO := Lib.hid hso
  have HI5 := Lib.hid hi5
  have HB5 := Lib.hid hb5
  clear hs4 hf5 hs5 hi5 hb5 hz5 hcm hso HI4 HB4
  refine HSO.out.mono ?_
  rintro e w6 ⟨rfl, l', hst, hll, hi6, hg6⟩
  have hb6 := HB5.out.grown hg6 HB5.out.size fun k hk => (HI5.out.lt k hk).1
  have hbx : Below w.heap.size w w6 := HOB.out.below.trans (hb6.mono (by omega))
  rw [ltOf_cmpW, ← HTH.out] at hst
  have HRK : Hid (Ranks (fun n => weightI n work salt) nodes l') := ⟨hst⟩
  rw [← hll] at hi6 ⊢
  have HI6 := Lib.hid hi6
  have HBX := Lib.hid hbx
  clear hst hll hi6 hg6 hb6 hbx HSO HI5 HB5
  go_wp2_with fail
  go_ret
  exact ⟨o4, c4, l', rfl, HRK.out, HI6.out.lower (Nat.le_trans (Nat.le_succ _) (Nat.le_of_lt hzb)), HBX.out⟩
theorem order_any (oa : Option Addr) (cap : Nat) (nodes : List Int) (work salt : Int) (h0 : 0 ≤ salt) (h1 : salt < 18446744073709551616) (w : World) (h : SlAt icells w (.slice oa nodes.length cap) nodes) (hl : nodes.length ≤ 1000000) :
    Calls Tryz.prog 56 #[.slice oa nodes.length cap, .int .i64 work, .int .u64 salt] w (OrderPost nodes work salt w) :=
  (order_own oa cap nodes work salt h0 h1 w h hl).mono fun e w' ⟨oq, cq, l, h1, h2, h3, h4⟩ => ⟨oq, cq, l, h1, h2, h3.at, h4⟩
end Go.Proofs.YtjgbflclhkeibaaGreat
