/-
  rank.Order and rank.Owner: the nodes that there may be, each once, by their weights, the heaviest first; the first of them.
  The first of an order: rank.Owner and the reference's; whether two rows hold the same numbers; what the law's own examples come to.
  decide.Stable: a number that isn't lowered below what was wished of late.
-/
import Derived.Test.YtjgbflclhkeibaaOrder
import Derived.Laws.EntriesVeiled
import Derived.Deep.QuietTactic
import Derived.BigQuiet
import Derived.Test.YtjgbflclhkeibaaDStep
import Derived.Test.YtjgbflclhkeibaaIntRow
namespace Go.Proofs.Ytjgbflclhkeibaa
open Go.Shelf Go.RowKit Go.Lib Go.Sort
set_option linter.unusedVariables false
set_option maxHeartbeats 2000000 in
theorem stable_any (cf : Int → Int → Int) (hO : SWO (ltOf cf)) (g : Nat) (cb : Array Value) (eg : ∀ args w, (callFunc g args).run Try.prog w = .ok (.enter g args) w)
    (B : Nat) (v : Value) (l : List Int) (w : World) (hcmp : Compares g cb cf v.ownBlock w) (h : Ints B w v l) (hl : l.length ≤ 8) :
    Calls Try.prog 62 #[v, .int .i64 l.length, .func (.func g) #[] cb] w fun e w' => e = .returned (.tuple #[]) ∧ ∃ l', stableOf (ltOf cf) l l' ∧ l'.length = l.length ∧ Ints B w' v l' ∧ w.grownBy w' v.ownBlock := by
  have hi := ins_any cf hO g cb eg B v l w hcmp h (by omega)
  have HI := Lib.hid hi
  have hz : ¬ (20 : Int) ≤ (l.length : Int) := by omega
  have hz2 : ¬ (20 : Int) < (l.length : Int) := by omega
  clear hi h hcmp eg hO
  generalize hn : (l.length : Int) = n at *
  go_enter Try.func62, Try.ntmps62
  go_wp2_with fail
  refine wp_loop_rounds 1 ?_
  rw [rounds_succ]
  go_wp2_with fail
  refine HI.out.mono ?_
  rintro e w1 ⟨rfl, l', h1, h2, h3, h4⟩
  have HR : Hid (stableOf (ltOf cf) l l' ∧ l'.length = l.length ∧ Ints B w1 v l' ∧ w.grownBy w1 v.ownBlock) := ⟨h1, h2, h3, h4⟩
  clear h1 h2 h3 h4 HI
  go_wp2_with fail
  refine wp_loop_rounds 1 ?_
  rw [rounds_succ]
  go_wp2_with fail
  go_end0
  exact ⟨rfl, l', HR.out⟩
set_option maxHeartbeats 2000000 in
theorem sortStable_any (cf : Int → Int → Int) (hO : SWO (ltOf cf)) (g : Nat) (cb : Array Value) (eg : ∀ args w, (callFunc g args).run Try.prog w = .ok (.enter g args) w)
    (B : Nat) (v : Value) (l : List Int) (w : World) (hcmp : Compares g cb cf v.ownBlock w) (h : Ints B w v l) (hl : l.length ≤ 8) :
    Calls Try.prog 43 #[v, .func (.func g) #[] cb] w fun e w' => e = .returned (.tuple #[]) ∧ ∃ l', stableOf (ltOf cf) l l' ∧ l'.length = l.length ∧ Ints B w' v l' ∧ w.grownBy w' v.ownBlock := by
  have hi := stable_any cf hO g cb eg B v l w hcmp h hl
  obtain ⟨oa, cap, rfl⟩ := slAt_slice h.at
  have HI := Lib.hid hi
  clear hi h hcmp eg hO
  go_enter Try.func43, Try.ntmps43
  go_wp2_with fail
  refine HI.out.mono ?_
  rintro e w1 ⟨rfl, h1⟩
  have HR := Lib.hid h1
  clear h1 HI
  go_wp2_with fail
  go_end0
  exact ⟨rfl, HR.out⟩
theorem two_old (w : World) (c d : Array Value) (t u o : Nat) : ((w.alloc (.cells c t)).alloc (.cells d u)).cell? ⟨w.heap.size, o, none⟩ = c[o]? := by
  unfold World.cell?
  rw [Below.heap_alloc _ _ _ (by simp), heap_alloc_new]
  rfl
theorem two_new (w : World) (c d : Array Value) (t u o : Nat) : ((w.alloc (.cells c t)).alloc (.cells d u)).cell? ⟨w.heap.size + 1, o, none⟩ = d[o]? := by
  have e : w.heap.size + 1 = (w.alloc (.cells c t)).heap.size := by simp
  unfold World.cell?
  rw [e, heap_alloc_new]
  rfl
/-- what an order leaves, in memory of the call's own -/
def OrderOwn (nodes : List Int) (work salt : Int) (w : World) (e : Ending) (w' : World) : Prop :=
  ∃ oq cq l, e = .returned (.slice oq l.length cq) ∧ Ranks (fun n => weightI n work salt) nodes l ∧ Ints w.heap.size w' (.slice oq l.length cq) l ∧ Below w.heap.size w w'
/-- what an order leaves -/
def OrderPost (nodes : List Int) (work salt : Int) (w : World) (e : Ending) (w' : World) : Prop :=
  ∃ oq cq l, e = .returned (.slice oq l.length cq) ∧ Ranks (fun n => weightI n work salt) nodes l ∧ SlAt icells w' (.slice oq l.length cq) l ∧ Below w.heap.size w w'
set_option maxRecDepth 100000 in
set_option maxHeartbeats 4000000 in
theorem order_own (oa : Option Addr) (cap : Nat) (nodes : List Int) (work salt : Int) (h0 : 0 ≤ salt) (h1 : salt < 18446744073709551616) (w : World) (h : SlAt icells w (.slice oa nodes.length cap) nodes) (hl : nodes.length ≤ 1000000) :
    Calls Try.prog 27 #[.slice oa nodes.length cap, .int .i64 work, .int .u64 salt] w (OrderOwn nodes work salt w) := by
  have ep : ∀ args w, (callFunc 38 args).run Try.prog w = .ok (.enter 38 args) w := enters_of Try.func38 (by kernel_rfl) rfl
  have ec : ∀ args w, (callFunc 44 args).run Try.prog w = .ok (.enter 44 args) w := enters_of Try.func44 (by kernel_rfl) rfl
  have EP := Lib.hid ep
  have EC := Lib.hid ec
  have hcl := fun W (hW : SlAt icells W (.slice oa nodes.length cap) nodes) => clone_any oa cap nodes W hW hl
  have HCL := Lib.hid hcl
  have HE := Lib.hid h
  clear hcl h ep ec
  go_enter Try.func27, Try.ntmps27
  go_wp2_with fail
  have hsa : Salted work salt w.heap.size (w.heap.size + 1) ((w.alloc (.cells #[.int .i64 work] 3)).alloc (.cells #[.int .u64 salt] 23)) := ⟨two_old _ _ _ _ _ _, two_new _ _ _ _ _ _, by simp; omega, by simp⟩
  have hob : Onto w ((w.alloc (.cells #[.int .i64 work] 3)).alloc (.cells #[.int .u64 salt] 23)) := ((Onto.refl w).alloc _).alloc _
  generalize (w.alloc (.cells #[.int .i64 work] 3)).alloc (.cells #[.int .u64 salt] 23) = wb at *
  have HSA := Lib.hid hsa
  have HOB := Lib.hid hob
  have hzb : w.heap.size + 1 < wb.heap.size := hsa.ls
  clear hsa hob
  refine (HCL.out _ (HE.out.below icells_len (by decide) HOB.out.below (Nat.le_refl _))).mono ?_
  rintro e w1 ⟨v1, rfl, hi1, hb1⟩
  obtain ⟨o1, c1, rfl⟩ := slAt_slice hi1.at
  have HI1 := Lib.hid hi1
  have HB1 := Lib.hid hb1
  have hd := delete_any outside 38 EP.out pred_any wb.heap.size _ nodes w1 hi1 hl
  have HD := Lib.hid hd
  clear hi1 hb1 hd HCL
  go_wp2_with fail
  refine HD.out.mono ?_
  rintro e w2 ⟨v2, rfl, hi2, hv2, hg2⟩
  obtain ⟨o2, c2, rfl⟩ := slAt_slice hi2.at
  have hfl := List.length_filter_le (fun x => !outside x) nodes
  have HB2 := Lib.hid (HB1.out.grown hg2 HB1.out.size fun k hk => (HI1.out.lt k hk).1)
  have hs := sort_any wb.heap.size _ _ w2 hi2 (by omega)
  have HI2 := Lib.hid hi2
  have HS := Lib.hid hs
  clear hi2 hv2 hg2 hs HD HI1 HB1
  go_wp2_with fail
  refine HS.out.mono ?_
  rintro e w3 ⟨rfl, hi3, hg3⟩
  have HB3 := Lib.hid (HB2.out.grown hg3 HB2.out.size fun k hk => (HI2.out.lt k hk).1)
  have hlm : ((nodes.filter fun x => !outside x).mergeSort fun x y => decide (x ≤ y)).length ≤ 1000000 := by rw [List.length_mergeSort]; omega
  have hc := compact_any wb.heap.size _ _ w3 hi3 hlm
  rw [base_there outside outside_false nodes] at hc
  have HI3 := Lib.hid hi3
  have HC := Lib.hid hc
  clear hi3 hg3 hlm hc HS HI2 HB2
  go_wp2_with fail
  refine HC.out.mono ?_
  rintro e w4 ⟨v4, rfl, hi4, hv4, hg4⟩
  obtain ⟨o4, c4, rfl⟩ := slAt_slice hi4.at
  have HB4 := Lib.hid (HB3.out.grown hg4 HB3.out.size fun k hk => (HI3.out.lt k hk).1)
  have HI4 := Lib.hid hi4
  have htl := there_len nodes
  have HT := Lib.hid htl
  clear hi4 hv4 hg4 htl HC HI3 HB3 hfl
  generalize hth : there nodes = th at *
  have HTH := Lib.hid hth
  clear hth
  go_wp2_with fail
  have hs4 : Salted work salt w.heap.size (w.heap.size + 1) w4 := ⟨(HB4.out.cell HSA.out.lw).trans HSA.out.work, (HB4.out.cell HSA.out.ls).trans HSA.out.salt, by have := HB4.out.size; omega, by have := HB4.out.size; omega⟩
  have hf5 : (w4.alloc (.cells #[.func (.func 41) #[] #[.pointer (some ⟨w.heap.size, 0, none⟩), .pointer (some ⟨w.heap.size + 1, 0, none⟩)]] 99)).cell? ⟨w4.heap.size, 0, none⟩ = some (.func (.func 41) #[] #[.pointer (some ⟨w.heap.size, 0, none⟩), .pointer (some ⟨w.heap.size + 1, 0, none⟩)]) := by unfold World.cell?; rw [heap_alloc_new]; rfl
  have hs5 := hs4.onto ((Onto.refl w4).alloc (.cells #[.func (.func 41) #[] #[.pointer (some ⟨w.heap.size, 0, none⟩), .pointer (some ⟨w.heap.size + 1, 0, none⟩)]] 99))
  have hi5 := HI4.out.below ((Onto.refl w4).alloc (.cells #[.func (.func 41) #[] #[.pointer (some ⟨w.heap.size, 0, none⟩), .pointer (some ⟨w.heap.size + 1, 0, none⟩)]] 99)).below (Nat.le_refl _)
  have hb5 := HB4.out.alloc HB4.out.size (.cells #[.func (.func 41) #[] #[.pointer (some ⟨w.heap.size, 0, none⟩), .pointer (some ⟨w.heap.size + 1, 0, none⟩)]] 99)
  have hz5 : w4.heap.size < (w4.alloc (.cells #[.func (.func 41) #[] #[.pointer (some ⟨w.heap.size, 0, none⟩), .pointer (some ⟨w.heap.size + 1, 0, none⟩)]] 99)).heap.size := by simp
  generalize w4.alloc (.cells #[.func (.func 41) #[] #[.pointer (some ⟨w.heap.size, 0, none⟩), .pointer (some ⟨w.heap.size + 1, 0, none⟩)]] 99) = w5 at *
  have hcm : Compares 44 #[.pointer (some ⟨w4.heap.size, 0, none⟩)] (cmpW fun n => weightI n work salt) (Value.slice o4 th.length c4).ownBlock w5 := fun W hk hsz x y => by
    have hne : ∀ g, (Value.slice o4 th.length c4).ownBlock = some g → wb.heap.size ≤ g ∧ g < w4.heap.size := fun g hg => HI4.out.lt g hg
    have k0 : ∀ k, k < w5.heap.size → (∀ g, (Value.slice o4 th.length c4).ownBlock = some g → g ≠ k) → W.heap[k]? = w5.heap[k]? := fun k hlt hnk => hk k hlt fun e => hnk k e.symm rfl
    have e0 := k0 w.heap.size hs5.lw fun g hg => by have := hne g hg; omega
    have e1 := k0 (w.heap.size + 1) hs5.ls fun g hg => by have := hne g hg; omega
    have e2 := k0 w4.heap.size hz5 fun g hg => by have := hne g hg; omega
    exact cmp_any work salt h0 h1 w.heap.size (w.heap.size + 1) w4.heap.size x y W ⟨(World.cell?_of_block e0).trans hs5.work, (World.cell?_of_block e1).trans hs5.salt, by have := hs5.lw; omega, by have := hs5.ls; omega⟩ ((World.cell?_of_block e2).trans hf5) (by omega)
  have hso := sortStable_any (cmpW fun n => weightI n work salt) (by rw [ltOf_cmpW]; exact swo_heavier _) 44 #[.pointer (some ⟨w4.heap.size, 0, none⟩)] EC.out wb.heap.size _ th w5 hcm hi5 HT.out
  have HSO := Lib.hid hso
  have HI5 := Lib.hid hi5
  have HB5 := Lib.hid hb5
  clear hs4 hf5 hs5 hi5 hb5 hz5 hcm hso HI4 HB4
  refine HSO.out.mono ?_
  rintro e w6 ⟨rfl, l', hst, hll, hi6, hg6⟩
  have hb6 := HB5.out.grown hg6 HB5.out.size fun k hk => (HI5.out.lt k hk).1
  have hbx : Below w.heap.size w w6 := HOB.out.below.trans (hb6.mono (by omega))
  rw [ltOf_cmpW, ← HTH.out] at hst
  have HRK : Hid (Ranks (fun n => weightI n work salt) nodes l') := ⟨hst⟩
  rw [← hll] at hi6 ⊢
  have HI6 := Lib.hid hi6
  have HBX := Lib.hid hbx
  clear hst hll hi6 hg6 hb6 hbx HSO HI5 HB5
  go_wp2_with fail
  go_ret
  exact ⟨o4, c4, l', rfl, HRK.out, HI6.out.lower (Nat.le_trans (Nat.le_succ _) (Nat.le_of_lt hzb)), HBX.out⟩
theorem order_any (oa : Option Addr) (cap : Nat) (nodes : List Int) (work salt : Int) (h0 : 0 ≤ salt) (h1 : salt < 18446744073709551616) (w : World) (h : SlAt icells w (.slice oa nodes.length cap) nodes) (hl : nodes.length ≤ 1000000) :
    Calls Try.prog 27 #[.slice oa nodes.length cap, .int .i64 work, .int .u64 salt] w (OrderPost nodes work salt w) :=
  (order_own oa cap nodes work salt h0 h1 w h hl).mono fun e w' ⟨oq, cq, l, h1, h2, h3, h4⟩ => ⟨oq, cq, l, h1, h2, h3.at, h4⟩
end Go.Proofs.Ytjgbflclhkeibaa
namespace Go.Proofs.Ytjgbflclhkeibaa
open Go.Shelf Go.RowKit Go.Lib Go.Sort
set_option linter.unusedVariables false
def own : List Int → Int × Int
  | [] => (0, 8)
  | x :: _ => (x, 0)
def OwnerPost (nodes : List Int) (work salt : Int) (w : World) (e : Ending) (w' : World) : Prop :=
  ∃ l, Ranks (fun n => weightI n work salt) nodes l ∧ e = .returned (.tuple #[.int .i64 (own l).1, .int .i64 (own l).2]) ∧ Below w.heap.size w w'
set_option maxHeartbeats 2000000 in
theorem owner_any (oa : Option Addr) (cap : Nat) (nodes : List Int) (work salt : Int) (h0 : 0 ≤ salt) (h1 : salt < 18446744073709551616) (w : World) (h : SlAt icells w (.slice oa nodes.length cap) nodes) (hl : nodes.length ≤ 1000000) :
    Calls Try.prog 13 #[.slice oa nodes.length cap, .int .i64 work, .int .u64 salt] w (OwnerPost nodes work salt w) := by
  have ho := order_any oa cap nodes work salt h0 h1 w h hl
  have HO := Lib.hid ho
  clear ho h
  go_enter Try.func13, Try.ntmps13
  go_wp2_with fail
  refine HO.out.mono ?_
  rintro e w1 ⟨oq, cq, l, rfl, hr, hs, hb⟩
  cases l with
  | nil =>
    have HR := Lib.hid hr
    have HB := Lib.hid hb
    clear hr hs hb HO
    simp only [List.length_nil]
    go_wp2_with fail
    go_ret2
    exact ⟨[], HR.out, rfl, HB.out⟩
  | cons x l =>
    obtain ⟨b, off, rfl⟩ := hs.plain icells_len (by decide) (by simp)
    have c0 : w1.cell? ⟨b, off, none⟩ = some (.int .i64 x) := by
      have := hs.cell icells_len (i := 0) (c := 0) (by simp) (by decide)
      simpa [icells] using this
    have len0 : (((x :: l).length : Int) == 0) = false := by first | (simp; done) | (simp; omega)
    have lenz : (0 : Int) < ((x :: l).length : Int) := by first | (simp; done) | (simp; omega)
    have HR := Lib.hid hr
    have HB := Lib.hid hb
    clear hr hs hb HO
    generalize hlen : (x :: l).length = n at *
    go_wp2_with fail
    go_ret2
    exact ⟨x :: l, HR.out, rfl, HB.out⟩
set_option maxHeartbeats 2000000 in
theorem ints_any (oa ob : Option Addr) (ca cb : Nat) (l : List Int) (w : World) (ha : SlAt icells w (.slice oa l.length ca) l) (hb : SlAt icells w (.slice ob l.length cb) l) (hl : l.length ≤ 1000000) :
    Calls Try.prog 14 #[.slice oa l.length ca, .slice ob l.length cb] w fun e w' => e = .returned (.bool true) ∧ ∃ q, w' = w.drewN q := by
  have HA := Lib.hid ha
  have HB := Lib.hid hb
  clear ha hb
  go_enter Try.func14, Try.ntmps14
  go_wp2_with fail
  go_loopg [5, 13] l.length (fun gk s5 s13 wr => ∃ (i q : Nat), s13 = .int .i64 i ∧ i ≤ l.length ∧ l.length - i ≤ gk ∧ wr = w.drewN q)
  case atStart => exact ⟨0, 0, rfl, Nat.zero_le _, Nat.le_refl _, rfl⟩
  case round =>
    obtain ⟨i, q, rfl, hi, hg, rfl⟩ := hrel
    by_cases hlt : i < l.length
    · have hltz : (i : Int) < (l.length : Int) := by omega
      have hsa := HA.out
      have hsb := HB.out
      obtain ⟨b1, off1, rfl⟩ := hsa.plain icells_len (by decide) (by intro e; rw [e] at hlt; exact absurd hlt (by simp))
      obtain ⟨b2, off2, rfl⟩ := hsb.plain icells_len (by decide) (by intro e; rw [e] at hlt; exact absurd hlt (by simp))
      have c1 : w.cell? ⟨b1, off1 + i, none⟩ = some (.int .i64 (l[i]'hlt)) := by
        have := hsa.cell icells_len (i := i) (c := 0) hlt (by decide)
        simpa [icells] using this
      have c2 : w.cell? ⟨b2, off2 + i, none⟩ = some (.int .i64 (l[i]'hlt)) := by
        have := hsb.cell icells_len (i := i) (c := 0) hlt (by decide)
        simpa [icells] using this
      generalize l[i]'hlt = y at c1 c2
      clear hsa hsb
      go_wp2_with fail
      go_quiet (fail)
      go_wp2_with fail
      go_roundg (l.length - (i + 1))
      case measure => omega
      case rel => exact ⟨i + 1, q + nq, by go_num, by omega, Nat.le_refl _, by first | rfl | exact World.drewN_drewN _ _ _⟩
    · have hltz : ¬ (i : Int) < (l.length : Int) := by omega
      go_wp2_with fail
      go_ret
      exact ⟨rfl, q, rfl⟩
/-- the order, as a function -/
def rk (nodes : List Int) (work salt : Int) : List Int := (Sort.insertionSort (heavier fun n => weightI n work salt) (there nodes).toArray 0 (there nodes).length).toList
theorem rk_ranks (nodes : List Int) (work salt : Int) : Ranks (fun n => weightI n work salt) nodes (rk nodes work salt) := by
  have h := insertion_stable (swo_heavier fun n => weightI n work salt) (there nodes).toArray
  rw [List.size_toArray] at h
  exact ⟨h⟩
theorem ranks_one {wt : Int → Int} {l out : List Int} {x : Int} (h : Ranks wt l out) (ht : there l = [x]) : out = [x] := by
  have := h.perm
  rw [ht] at this
  exact List.perm_singleton.1 this
end Go.Proofs.Ytjgbflclhkeibaa
namespace Go.Proofs.Ytjgbflclhkeibaa
open Go.Shelf Go.RowKit Go.Lib Go.Sort
set_option linter.unusedVariables false
def stableI (recent : List Int) (want now : Int) : Int := if now ≤ want then want else min (recent.foldl max want) now
theorem foldl_max_ge (l : List Int) : ∀ a : Int, a ≤ l.foldl max a ∧ ∀ x ∈ l, x ≤ l.foldl max a := by
  induction l with
  | nil => intro a; exact ⟨Int.le_refl _, fun x hx => nomatch hx⟩
  | cons y l ih =>
    intro a
    obtain ⟨h1, h2⟩ := ih (max a y)
    rw [List.foldl_cons]
    refine ⟨by omega, fun x hx => ?_⟩
    rcases List.mem_cons.1 hx with rfl | hx
    · omega
    · exact h2 x hx
theorem owns_lit (W : World) (cs : Array Value) (e : Nat) (l : List Int) (hc : cs.toList = l.flatMap icells) (hl : l.length ≤ 1000000) : Owns icells 1 W.heap.size e (W.alloc (.cells cs e)) (.slice (some ⟨W.heap.size, 0, none⟩) l.length l.length) l := by
  have hs : cs.size = l.length := by rw [← Array.length_toList, hc, icells_flat, List.length_map]
  refine ⟨by rw [icells_flat, List.length_map, Nat.mul_one], .inr ⟨_, _, cs, rfl, Nat.le_refl _, heap_alloc_new W _, Nat.le_refl _, by unfold maxLen; omega, by rw [hs, Nat.mul_one], ?_⟩⟩
  rw [hc, List.take_of_length_le (by rw [icells_flat, List.length_map, Nat.mul_one]; exact Nat.le_refl _)]
set_option maxHeartbeats 2000000 in
theorem slMax_any (oa : Option Addr) (cap : Nat) (x : Int) (l : List Int) (w : World) (h : SlAt icells w (.slice oa (x :: l).length cap) (x :: l)) (hl : l.length ≤ 1000000) :
    Calls Try.prog 56 #[.slice oa (x :: l).length cap] w fun e w' => e = .returned (.int .i64 (l.foldl max x)) ∧ w' = w := by
  obtain ⟨b, off, rfl⟩ := h.plain icells_len (by decide) (by simp)
  have hx : w.cell? ⟨b, off, none⟩ = some (.int .i64 x) := by
    have := h.cell icells_len (i := 0) (c := 0) (by simp) (by decide)
    simpa [icells] using this
  have hc : ∀ i (hi : i < l.length), w.cell? ⟨b, off + (i + 1), none⟩ = some (.int .i64 (l[i]'hi)) := fun i hi => by
    have := h.cell icells_len (i := i + 1) (c := 0) (by simp; omega) (by decide)
    simpa [icells] using this
  have HC := Lib.hid hc
  rw [show (x :: l).length = l.length + 1 from rfl]
  have h1 : ¬ ((l.length : Int) + 1 < 1) := by omega
  clear hc h
  go_enter Try.func56, Try.ntmps56
  go_wp2_with fail
  go_loopg [3, 4] l.length (fun gk s3 s4 wr => ∃ (i q : Nat), s4 = .int .i64 (i + 1 : Nat) ∧ s3 = .int .i64 ((l.take i).foldl max x) ∧ i ≤ l.length ∧ l.length - i ≤ gk ∧ wr = w)
  case atStart => exact ⟨0, 0, rfl, rfl, Nat.zero_le _, Nat.le_refl _, rfl⟩
  case round =>
    obtain ⟨i, q, rfl, rfl, hi, hg, hwr⟩ := hrel
    subst hwr
    by_cases hlt : i < l.length
    · have hltz : ((i : Int) + 1 < (l.length : Int) + 1) := by omega
      have c1 := HC.out i hlt
      have hs : (l.take (i + 1)).foldl max x = max ((l.take i).foldl max x) (l[i]'hlt) := by rw [List.take_succ_eq_append_getElem hlt, List.foldl_append]; rfl
      have HS := Lib.hid hs
      clear hs
      generalize l[i]'hlt = y at *
      generalize (l.take i).foldl max x = m at *
      go_wp2_with fail
      go_roundg (l.length - (i + 1))
      case measure => omega
      case rel => exact ⟨i + 1, q, by go_num, by rw [HS.out], by omega, Nat.le_refl _, rfl⟩
    · obtain rfl : i = l.length := by omega
      have hltz : ¬ ((l.length : Int) + 1 < (l.length : Int) + 1) := by omega
      rw [List.take_length]
      go_wp2_with fail
      go_ret
      exact ⟨rfl, rfl⟩
set_option maxRecDepth 100000 in
set_option maxHeartbeats 2000000 in
theorem decStable_any (oa : Option Addr) (cap : Nat) (l : List Int) (want now : Int) (w : World) (h : SlAt icells w (.slice oa l.length cap) l) (hl : l.length ≤ 1000000) :
    Calls Try.prog 36 #[.slice oa l.length cap, .int .i64 want, .int .i64 now] w fun e w' => e = .returned (.int .i64 (stableI l want now)) ∧ Below w.heap.size w w' := by
  unfold stableI
  by_cases hw : now ≤ want
  · rw [if_pos hw]
    go_enter Try.func36, Try.ntmps36
    go_wp2_with fail
    go_ret
    exact ⟨rfl, Below.refl _ _⟩
  · rw [if_neg hw]
    have HE := Lib.hid h
    clear h
    have hw2 : want < now := by omega
    obtain ⟨mx, hmx⟩ : ∃ m, l.foldl max want = m := ⟨_, rfl⟩
    rw [hmx]
    have HMX := Lib.hid hmx
    clear hmx
    go_enter Try.func36, Try.ntmps36
    go_wp2_with (at_builtin; go_loud (refine wpList_appD icells 1 icells_len (by decide) icells_one _ rfl _ _ 22 rfl w.heap.size 3 _ 8 Try.underlying22 infoInt rfl _ [want] rfl ?h1 _ l rfl ?h2 ?h3 ?h4 ?h5 ?_))
    case h1 => exact owns_lit w #[.int .i64 want] 3 [want] rfl (by simp)
    case h2 => exact HE.out.below icells_len (by decide) ((Below.refl _ _).alloc (Nat.le_refl _) _) (Nat.le_refl _)
    case h3 => show (1 + l.length) * 8 ≤ _; omega
    case h4 => show 1 + l.length ≤ _; omega
    intro v9 w5 h9 hg9 hv9 hd9
    obtain ⟨o9, c9, rfl⟩ := slAt_slice h9.at
    have hm := slMax_any o9 c9 want l w5 (by simpa using h9.at) hl
    rw [HMX.out] at hm
    have HM := Lib.hid hm
    have hb5 : Below w.heap.size w w5 := ((Below.refl _ _).alloc (Nat.le_refl _) _).grown hg9 (by simp) fun k hk => by simp [Value.ownBlock] at hk; omega
    have HB5 := Lib.hid hb5
    generalize (want :: l).length = n9 at *
    clear hm hb5 h9 hg9 hv9 hd9
    go_wp2_with fail
    refine HM.out.mono ?_
    rintro e w6 ⟨rfl, rfl⟩
    go_wp2_with fail
    go_ret
    exact ⟨rfl, HB5.out⟩
end Go.Proofs.Ytjgbflclhkeibaa
