/-
  watch.Check walked.
-/
import Derived.Test.YtkdjfoehpioghaaBuildP
namespace Go.Proofs.Ytkdjfoehpioghaa
open Go.Shelf Go.RowKit Go.Lib Go.Sort
set_option linter.unusedVariables false
theorem view_load {W : World} {blk : Nat} {v : WV} {e : TypeId} (hv : v.Ok) (h : W.heap[blk]? = some (.cells v.cells.toArray e)) : Sem.run Try.prog (loadCellsFrom ⟨blk, 0, none⟩ 0 105 #[]) W = .ok v.cells.toArray W := by
  exact run_loadCellsFrom_list Try.prog W ⟨blk, 0, none⟩ v.cells 105 (WV.cells_len hv) (fun i x hi => by
    rw [Addr.add_lit, Nat.zero_add, cell_of_row W blk _ _ _ _ h, List.getElem?_toArray]
    exact hi)
theorem zero_pair : (Try.zeroCells53).size = 210 := by kernel_rfl
/-- each node's slice of dots in memory -/
def SetsIn (W : World) (v : WV) : Prop := ∀ n ∈ v.nodes, SlAt Dot.cells W n.hd.val n.s.more ∧ n.s.more.length ≤ 1000000
theorem SetsIn.below {W W' : World} {v : WV} (h : SetsIn W v) (hb : Below W.heap.size W W') : SetsIn W' v := fun n hn => ⟨(h n hn).1.below Dot.cells_len (by decide) hb (Nat.le_refl _), (h n hn).2⟩
/-- the fences are numbers of the machine -/
def FencesOk (v : WV) : Prop := ∀ x ∈ v.fence, R64 x
noncomputable def forgotB (a b : WV) (i : Nat) : Bool := match a.nodes[i]?, b.nodes[i]? with
  | some m, some n => (m.runs && n.runs) && decide (0 < (lessD m.s n.s).length)
  | _, _ => false
def fellB (a b : WV) (i : Nat) : Bool := match a.nodes[i]?, b.nodes[i]? with
  | some m, some n => (m.runs && n.runs) && decide (n.inc < m.inc)
  | _, _ => false
def jumpedB (a b : WV) (i : Nat) : Bool := match a.fence[i]?, b.fence[i]? with
  | some m, some n => jumpB m n
  | _, _ => false
def movedB (a b : WV) (i : Nat) : Bool := match a.fence[i]?, b.fence[i]?, a.has[i]?, b.has[i]? with
  | some m, some n, some p, some q => decide (m = n ∧ p ≠ q)
  | _, _, _, _ => false
noncomputable def rule1 (a b : WV) (r : Int × Nat) (i : Nat) : Bool := if r.1 = 1 then forgotB a b i else fellB a b i
def rule2 (a b : WV) (r : Int × Nat) (i : Nat) : Bool := if r.1 = 3 then jumpedB a b i else movedB a b i
def rule3 (b : WV) (r : Int × Nat) (i : Nat) : Bool := decide (64 < b.flight)
/-- what is broken -/
noncomputable def checkL (a b : WV) : List Dot := overL [(1, 0), (2, 1)] (rule1 a b) 8 ++ (overL [(3, 0), (4, 1)] (rule2 a b) 8 ++ overL [(5, 0)] (rule3 b) 1)
theorem forgotB_eq {a b : WV} {i : Nat} (ha : i < a.nodes.length) (hb : i < b.nodes.length) : forgotB a b i = ((a.nodes[i].runs && b.nodes[i].runs) && decide (0 < (lessD a.nodes[i].s b.nodes[i].s).length)) := by
  unfold forgotB
  rw [List.getElem?_eq_getElem ha, List.getElem?_eq_getElem hb]
theorem fellB_eq {a b : WV} {i : Nat} (ha : i < a.nodes.length) (hb : i < b.nodes.length) : fellB a b i = ((a.nodes[i].runs && b.nodes[i].runs) && decide (b.nodes[i].inc < a.nodes[i].inc)) := by
  unfold fellB
  rw [List.getElem?_eq_getElem ha, List.getElem?_eq_getElem hb]
theorem jumpedB_eq {a b : WV} {i : Nat} (ha : i < a.fence.length) (hb : i < b.fence.length) : jumpedB a b i = jumpB a.fence[i] b.fence[i] := by
  unfold jumpedB
  rw [List.getElem?_eq_getElem ha, List.getElem?_eq_getElem hb]
theorem movedB_eq {a b : WV} {i : Nat} (ha : i < a.fence.length) (hb : i < b.fence.length) (hc : i < a.has.length) (hd : i < b.has.length) : movedB a b i = decide (a.fence[i] = b.fence[i] ∧ a.has[i] ≠ b.has[i]) := by
  unfold movedB
  rw [List.getElem?_eq_getElem ha, List.getElem?_eq_getElem hb, List.getElem?_eq_getElem hc, List.getElem?_eq_getElem hd]
theorem atL_two (m n : Int) (f g f' g' : Nat) (p : Int × Nat → Nat → Bool) (hp : ∀ x y z i, p (x, y) i = p (x, z) i) (i : Nat) : atL [(m, f), (n, g)] p i = atL [(m, f'), (n, g')] p i := by
  unfold atL
  rw [List.filter_cons, List.filter_cons, List.filter_cons, List.filter_cons, hp m f f' i, hp n g g' i]
  cases p (m, f') i <;> cases p (n, g') i <;> rfl
theorem atL_one (m : Int) (f f' : Nat) (p : Int × Nat → Nat → Bool) (hp : ∀ x y z i, p (x, y) i = p (x, z) i) (i : Nat) : atL [(m, f)] p i = atL [(m, f')] p i := by
  unfold atL
  rw [List.filter_cons, List.filter_cons, hp m f f' i]
  cases p (m, f') i <;> rfl
theorem overL_num {rules rules' : List (Int × Nat)} {p p' : Int × Nat → Nat → Bool} (h : ∀ i, atL rules p i = atL rules' p' i) (n : Nat) : overL rules p n = overL rules' p' n := by
  unfold overL
  rw [show atL rules p = atL rules' p' from funext h]
theorem overL_len (rules : List (Int × Nat)) (p : Int × Nat → Nat → Bool) (n : Nat) : (overL rules p n).length ≤ rules.length * n := by
  induction n with
  | zero => simp [overL]
  | succ n ih =>
    rw [overL_succ, List.length_append]
    have h : (atL rules p n).length ≤ rules.length := by
      unfold atL
      rw [List.length_map]
      exact List.length_filter_le _ _
    rw [Nat.mul_succ]
    omega
/-- the three askings -/
theorem over1_any (a b : WV) (ha : a.Ok) (hb : b.Ok) (w : World) (sa : SetsIn w a) (sb : SetsIn w b) (ro : Option Addr) (cap : Nat) (hr : SlAt rcells w (.slice ro 2 cap) [(1, 13), (2, 14)]) :
    Calls Try.prog 12 #[.agg (pairArr a b), .int .i64 8, .slice ro 2 cap] w fun e w' => ∃ o n c, e = .returned (.slice o n c) ∧ Owns Dot.cells 2 w.heap.size 48 w' (.slice o n c) (overL [(1, 0), (2, 1)] (rule1 a b) 8) ∧ Below w.heap.size w w' := by
  have h := over_any a b ha hb 8 (Nat.le_refl _) ro cap [(1, 13), (2, 14)] (rule1 a b) (fun r hr => by
    simp only [List.mem_cons, List.not_mem_nil, or_false] at hr
    rcases hr with rfl | rfl
    · exact enters_of Try.func13 (by kernel_rfl) rfl
    · exact enters_of Try.func14 (by kernel_rfl) rfl) w hr (Nat.le_refl _) (fun r hr i hi W hW => by
    have na : i < a.nodes.length := by rw [ha.nodes]; exact hi
    have nb : i < b.nodes.length := by rw [hb.nodes]; exact hi
    simp only [List.mem_cons, List.not_mem_nil, or_false] at hr
    rcases hr with rfl | rfl
    · have sa' := sa.below hW _ (List.getElem_mem na)
      have sb' := sb.below hW _ (List.getElem_mem nb)
      show Calls _ _ _ _ fun e w' => e = .returned (.bool (rule1 a b (1, _) i)) ∧ _
      rw [show rule1 a b (1, 13) i = forgotB a b i from if_pos rfl, forgotB_eq na nb]
      exact forgot_any a b ha hb i hi W _ _ rfl rfl sa'.1 sb'.1 sa'.2 sb'.2
    · show Calls _ _ _ _ fun e w' => e = .returned (.bool (rule1 a b (2, _) i)) ∧ _
      rw [show rule1 a b (2, 14) i = fellB a b i from if_neg (by decide), fellB_eq na nb]
      exact fell_any a b ha hb i hi W)
  rw [overL_num (rules' := [(1, 0), (2, 1)]) (p' := rule1 a b) (fun i => atL_two 1 2 _ _ 0 1 (rule1 a b) (fun x y z i => rfl) i)] at h
  exact h
theorem over2_any (a b : WV) (ha : a.Ok) (hb : b.Ok) (fa : FencesOk a) (fb : FencesOk b) (w : World) (ro : Option Addr) (cap : Nat) (hr : SlAt rcells w (.slice ro 2 cap) [(3, 15), (4, 16)]) :
    Calls Try.prog 12 #[.agg (pairArr a b), .int .i64 8, .slice ro 2 cap] w fun e w' => ∃ o n c, e = .returned (.slice o n c) ∧ Owns Dot.cells 2 w.heap.size 48 w' (.slice o n c) (overL [(3, 0), (4, 1)] (rule2 a b) 8) ∧ Below w.heap.size w w' := by
  have h := over_any a b ha hb 8 (Nat.le_refl _) ro cap [(3, 15), (4, 16)] (rule2 a b) (fun r hr => by
    simp only [List.mem_cons, List.not_mem_nil, or_false] at hr
    rcases hr with rfl | rfl
    · exact enters_of Try.func15 (by kernel_rfl) rfl
    · exact enters_of Try.func16 (by kernel_rfl) rfl) w hr (Nat.le_refl _) (fun r hr i hi W hW => by
    have na : i < a.fence.length := by rw [ha.fence]; exact hi
    have nb : i < b.fence.length := by rw [hb.fence]; exact hi
    have ma : i < a.has.length := by rw [ha.has]; exact hi
    have mb : i < b.has.length := by rw [hb.has]; exact hi
    simp only [List.mem_cons, List.not_mem_nil, or_false] at hr
    rcases hr with rfl | rfl
    · show Calls _ _ _ _ fun e w' => e = .returned (.bool (rule2 a b (3, _) i)) ∧ _
      rw [show rule2 a b (3, 15) i = jumpedB a b i from if_pos rfl, jumpedB_eq na nb]
      exact jumped_any a b ha hb i hi W (fa _ (List.getElem_mem na)) (fb _ (List.getElem_mem nb))
    · show Calls _ _ _ _ fun e w' => e = .returned (.bool (rule2 a b (4, _) i)) ∧ _
      rw [show rule2 a b (4, 16) i = movedB a b i from if_neg (by decide), movedB_eq na nb ma mb]
      exact moved_any a b ha hb i hi W)
  rw [overL_num (rules' := [(3, 0), (4, 1)]) (p' := rule2 a b) (fun i => atL_two 3 4 _ _ 0 1 (rule2 a b) (fun x y z i => rfl) i)] at h
  exact h
theorem over3_any (a b : WV) (ha : a.Ok) (hb : b.Ok) (w : World) (ro : Option Addr) (cap : Nat) (hr : SlAt rcells w (.slice ro 1 cap) [(5, 17)]) :
    Calls Try.prog 12 #[.agg (pairArr a b), .int .i64 1, .slice ro 1 cap] w fun e w' => ∃ o n c, e = .returned (.slice o n c) ∧ Owns Dot.cells 2 w.heap.size 48 w' (.slice o n c) (overL [(5, 0)] (rule3 b) 1) ∧ Below w.heap.size w w' := by
  have h := over_any a b ha hb 1 (by omega) ro cap [(5, 17)] (rule3 b) (fun r hr => by
    rw [List.mem_singleton] at hr
    subst hr
    exact enters_of Try.func17 (by kernel_rfl) rfl) w hr (by simp) (fun r hr i hi W hW => by
    rw [List.mem_singleton] at hr
    subst hr
    exact crowd_any a b ha hb _ W)
  rw [overL_num (rules' := [(5, 0)]) (p' := rule3 b) (fun i => atL_one 5 _ 0 (rule3 b) (fun x y z i => rfl) i)] at h
  exact h
set_option maxRecDepth 100000 in
set_option maxHeartbeats 8000000 in
theorem check_any (a b : WV) (ha : a.Ok) (hb : b.Ok) (fa : FencesOk a) (fb : FencesOk b) (w : World) (sa : SetsIn w a) (sb : SetsIn w b) :
    Calls Try.prog 8 #[.agg a.cells.toArray, .agg b.cells.toArray] w fun e w' => ∃ o n c, e = .returned (.slice o n c) ∧ Owns Dot.cells 2 w.heap.size 48 w' (.slice o n c) (checkL a b) ∧ Below w.heap.size w w' := by
  obtain ⟨r0, r1, hb2, hs2⟩ := alloc2' w (.cells a.cells.toArray 43) (.cells b.cells.toArray 43)
  have hla := view_load ha r0
  have hlb := view_load hb r1
  have hf1 := fold_zero a.cells Try.zeroCells53 105 (WV.cells_len ha).symm
  have hf2 := fold_at 105 b.cells (setAll Try.zeroCells53 0 a.cells) 105 (WV.cells_len hb).symm
  have hz1 : (setAll Try.zeroCells53 0 a.cells).size = 210 := by rw [setAll_size]; exact zero_pair
  have hf3 : setAll (setAll Try.zeroCells53 0 a.cells) 105 b.cells = pairArr a b := by
    have h := setAll_two (Z := Try.zeroCells53) (l := a.cells) (m := b.cells) (by rw [zero_pair, WV.cells_len ha, WV.cells_len hb])
    rw [WV.cells_len ha] at h
    exact h
  rw [hf3] at hf2
  have sA : a.cells.toArray.size = 105 := by rw [List.size_toArray]; exact WV.cells_len ha
  have sB : b.cells.toArray.size = 105 := by rw [List.size_toArray]; exact WV.cells_len hb
  have sP := pair_size ha hb
  obtain ⟨w3, hst, hr3, hg3⟩ := store_whole (w := ((w.alloc (.cells a.cells.toArray 43)).alloc (.cells b.cells.toArray 43)).alloc (.cells Try.zeroCells53 53)) (g := w.heap.size + 2) (cur := Try.zeroCells53) (t := 53) (vs := (pairArr a b).toList) (by rw [← hs2]; exact heap_alloc_new _ _) (by rw [zero_pair, Array.length_toList, sP]) (fun v hv => by
    unfold pairArr at hv
    rcases List.mem_append.1 (show v ∈ a.cells ++ b.cells by simpa using hv) with h | h
    · exact WV.one v h
    · exact WV.one v h)
  have HLA := Lib.hid hla
  have HLB := Lib.hid hlb
  clear hla hlb hf3
  generalize setAll Try.zeroCells53 0 a.cells = Z1 at *
  generalize a.cells.toArray = va at *
  generalize b.cells.toArray = vb at *
  go_enter Try.func8, Try.ntmps8
  have hr3' : w3.heap[w.heap.size + 2]? = some (.cells (pairArr a b) 53) := by rw [hr3, Array.toArray_toList]
  have hb3 : Below w.heap.size w w3 := (hb2.alloc (by omega) (.cells Try.zeroCells53 53)).grown hg3 (by rw [World.size_alloc]; omega) (fun k hk => by cases hk; omega)
  have hs3 : w.heap.size + 2 < w3.heap.size := (Array.getElem?_eq_some_iff.1 hr3').1
  have hpl := fun (W : World) (hW : W.heap[w.heap.size + 2]? = some (.cells (pairArr a b) 53)) => pair_load ha hb hW
  have HLP := Lib.hid hpl
  have HLP3 := Lib.hid (hpl _ hr3')
  have HR3 := Lib.hid hr3'
  have HB3 := Lib.hid hb3
  have SA := Lib.hid sa
  have SB := Lib.hid sb
  have FA := Lib.hid fa
  have FB := Lib.hid fb
  have HA := Lib.hid ha
  have HBB := Lib.hid hb
  clear hr3 hr3' hb3 hpl hg3 sa sb fa fb ha hb r0 r1 hb2
  go_wp2_with (first | (refine wpList_loadAgg _ rfl 43 _ rfl 105 (by kernel_rfl) (by kernel_rfl) ⟨w.heap.size, 0, none⟩ rfl va HLA.out ?_) | (refine wpList_loadAgg _ rfl 43 _ rfl 105 (by kernel_rfl) (by kernel_rfl) ⟨w.heap.size + 1, 0, none⟩ rfl vb HLB.out ?_) | (refine wpList_loadAgg _ rfl 53 _ rfl 210 (by kernel_rfl) (by kernel_rfl) ⟨w.heap.size + 2, 0, none⟩ rfl (pairArr a b) HLP3.out ?_))
  clear hst hf1 hf2 HLA HLB HLP3 sA sB sP hz1
  have hwa := (Below.refl w3.heap.size w3).alloc (Nat.le_refl _) (.cells #[.int .i64 1, .func (.func 13) #[] #[], .int .i64 2, .func (.func 14) #[] #[]] 58)
  have hza : (w3.alloc (.cells #[.int .i64 1, .func (.func 13) #[] #[], .int .i64 2, .func (.func 14) #[] #[]] 58)).heap.size = w3.heap.size + 1 := World.size_alloc _ _
  have hra : SlAt rcells (w3.alloc (.cells #[.int .i64 1, .func (.func 13) #[] #[], .int .i64 2, .func (.func 14) #[] #[]] 58)) (.slice (some ⟨w3.heap.size, 0, none⟩) 2 2) [(1, 13), (2, 14)] := slAt_new (enc := rcells) w3 _ 58 2 2 (0, 0) [(1, 13), (2, 14)] rfl rfl (Nat.le_refl _)
  have hba := HB3.out.trans (hwa.mono HB3.out.size)
  refine (over1_any a b HA.out HBB.out _ (SA.out.below hba) (SB.out.below hba) (some ⟨w3.heap.size, 0, none⟩) 2 hra).mono ?_
  rintro e w4 ⟨o4, n4, c4, rfl, hown4, hb4⟩
  have hz4 := hb4.size
  have hr4 := (hb4.block _ (by omega)).trans ((hwa.block _ (by omega)).trans HR3.out)
  have HLP4 := Lib.hid (HLP.out w4 hr4)
  have HB4 := Lib.hid (hba.trans (hb4.mono hba.size))
  have HO4 := Lib.hid hown4
  have HR4 := Lib.hid hr4
  have hs4 : w3.heap.size < w4.heap.size := by omega
  clear hwa hra hba hown4 hb4 hr4 HR3 HB3
  go_wp2_with (refine wpList_loadAgg _ rfl 53 _ rfl 210 (by kernel_rfl) (by kernel_rfl) ⟨w.heap.size + 2, 0, none⟩ rfl (pairArr a b) HLP4.out ?_)
  have hwb := (Below.refl w4.heap.size w4).alloc (Nat.le_refl _) (.cells #[.int .i64 3, .func (.func 15) #[] #[], .int .i64 4, .func (.func 16) #[] #[]] 58)
  have hzb : (w4.alloc (.cells #[.int .i64 3, .func (.func 15) #[] #[], .int .i64 4, .func (.func 16) #[] #[]] 58)).heap.size = w4.heap.size + 1 := World.size_alloc _ _
  have hrb : SlAt rcells (w4.alloc (.cells #[.int .i64 3, .func (.func 15) #[] #[], .int .i64 4, .func (.func 16) #[] #[]] 58)) (.slice (some ⟨w4.heap.size, 0, none⟩) 2 2) [(3, 15), (4, 16)] := slAt_new (enc := rcells) w4 _ 58 2 2 (0, 0) [(3, 15), (4, 16)] rfl rfl (Nat.le_refl _)
  have hbb := HB4.out.trans (hwb.mono HB4.out.size)
  refine (over2_any a b HA.out HBB.out FA.out FB.out _ (some ⟨w4.heap.size, 0, none⟩) 2 hrb).mono ?_
  rintro e w5 ⟨o5, n5, c5, rfl, hown5, hb5⟩
  have hz5 := hb5.size
  have hr5 := (hb5.block _ (by omega)).trans ((hwb.block _ (by omega)).trans HR4.out)
  have HB5 := Lib.hid (hbb.trans (hb5.mono hbb.size))
  have HO45 := Lib.hid ((HO4.out.below hwb (Nat.le_refl _)).below hb5 (Nat.le_refl _))
  have HO5 := Lib.hid hown5
  have HR5 := Lib.hid hr5
  have hs5 : w4.heap.size < w5.heap.size := by omega
  clear hwb hrb hbb hown5 hb5 hr5 HR4 HB4 HO4 HLP4
  have hl1 := overL_len [(1, 0), (2, 1)] (rule1 a b) 8
  have hl2 := overL_len [(3, 0), (4, 1)] (rule2 a b) 8
  have hl3 := overL_len [(5, 0)] (rule3 b) 1
  have hck : checkL a b = overL [(1, 0), (2, 1)] (rule1 a b) 8 ++ (overL [(3, 0), (4, 1)] (rule2 a b) 8 ++ overL [(5, 0)] (rule3 b) 1) := rfl
  have HCK := Lib.hid hck
  generalize overL [(1, 0), (2, 1)] (rule1 a b) 8 = L1 at *
  generalize overL [(3, 0), (4, 1)] (rule2 a b) 8 = L2 at *
  obtain ⟨L3, hL3⟩ : ∃ L3, overL [(5, 0)] (rule3 b) 1 = L3 := ⟨_, rfl⟩
  rw [hL3] at hl3 HCK
  have HL3 := Lib.hid hL3
  simp only [List.length_cons, List.length_nil] at hl1 hl2 hl3
  clear hck hL3
  go_wp2_with (at_builtin; go_loud (refine wpList_app Dot.cells 2 Dot.cells_len (by decide) Dot.cells_one _ rfl _ _ 36 rfl (w3.heap.size + 1) 48 _ 16 Try.underlying36 infoBreak rfl _ L1 rfl ?h1 _ L2 rfl ?h2 ?h3 ?h4 ?h5 ?_))
  case h1 => rw [hza] at HO45; exact HO45.out
  case h2 => exact HO5.out.at
  case h3 => omega
  case h4 => omega
  case h5 => omega
  intro v6 w6 hown6 hg6 hv6
  obtain ⟨o6, c6, hv6'⟩ := slAt_slice hown6.at
  obtain ⟨n6, hn6⟩ : ∃ n, (L1 ++ L2).length = n := ⟨_, rfl⟩
  rw [hn6] at hv6'
  subst hv6'
  have HLEN := Lib.hid (hn6.symm.trans List.length_append)
  clear hn6
  have hz6 := hg6.size
  have hlow : ∀ g, (Value.slice o4 n4 c4).ownBlock = some g → w3.heap.size + 1 ≤ g := fun g hg => by have := (HO45.out.lt g hg).1; omega
  have hr6 := (hg6.block (w.heap.size + 2) (by omega) (fun e => by have := hlow _ e.symm; omega)).trans HR5.out
  have HLP6 := Lib.hid (HLP.out w6 hr6)
  have HB6 := Lib.hid (HB5.out.grown hg6 HB5.out.size (fun g hg => by have := hlow g hg; omega))
  have HO6 := Lib.hid hown6
  have HR6 := Lib.hid hr6
  clear hown6 hg6 hv6 hlow hr6 HO45 HO5 HR5 HB5
  go_wp2_with (refine wpList_loadAgg _ rfl 53 _ rfl 210 (by kernel_rfl) (by kernel_rfl) ⟨w.heap.size + 2, 0, none⟩ rfl (pairArr a b) HLP6.out ?_)
  have hwc := (Below.refl w6.heap.size w6).alloc (Nat.le_refl _) (.cells #[.int .i64 5, .func (.func 17) #[] #[]] 58)
  have hzc : (w6.alloc (.cells #[.int .i64 5, .func (.func 17) #[] #[]] 58)).heap.size = w6.heap.size + 1 := World.size_alloc _ _
  have hrc : SlAt rcells (w6.alloc (.cells #[.int .i64 5, .func (.func 17) #[] #[]] 58)) (.slice (some ⟨w6.heap.size, 0, none⟩) 1 1) [(5, 17)] := slAt_new (enc := rcells) w6 _ 58 1 1 (0, 0) [(5, 17)] rfl rfl (Nat.le_refl _)
  have hbc := HB6.out.trans (hwc.mono HB6.out.size)
  have hov := over3_any a b HA.out HBB.out _ (some ⟨w6.heap.size, 0, none⟩) 1 hrc
  rw [HL3.out] at hov
  refine hov.mono ?_
  clear hov
  rintro e w7 ⟨o7, n7, c7, rfl, hown7, hb7⟩
  have hz7 := hb7.size
  have HB7 := Lib.hid (hbc.trans (hb7.mono hbc.size))
  have HO67 := Lib.hid ((HO6.out.below hwc (Nat.le_refl _)).below hb7 (Nat.le_refl _))
  have HO7 := Lib.hid hown7
  clear hwc hrc hbc hown7 hb7 HR6 HB6 HO6 HLP6
  go_wp2_with (at_builtin; go_loud (refine wpList_app Dot.cells 2 Dot.cells_len (by decide) Dot.cells_one _ rfl _ _ 36 rfl (w3.heap.size + 1) 48 _ 16 Try.underlying36 infoBreak rfl _ (L1 ++ L2) rfl ?h6 _ L3 rfl ?h7 ?h8 ?h9 ?h10 ?_))
  case h6 => exact HO67.out
  case h7 => exact HO7.out.at
  case h8 => rw [List.length_append]; omega
  case h9 => rw [List.length_append]; omega
  case h10 => omega
  intro v8 w8 hown8 hg8 hv8
  obtain ⟨o8, c8, hv8'⟩ := slAt_slice hown8.at
  obtain ⟨n8, hn8⟩ : ∃ n, (L1 ++ (L2 ++ L3)).length = n := ⟨_, rfl⟩
  rw [hn8] at hv8'
  subst hv8'
  clear hn8
  have HB8 := Lib.hid (HB7.out.grown hg8 HB7.out.size (fun g hg => by have := (HO67.out.lt g hg).1; omega))
  have HO8 := Lib.hid hown8
  clear hown8 hg8 hv8 HB7 HO67 HO7
  go_wp2_with fail
  go_ret
  exact ⟨o8, n8, c8, rfl, (by rw [HCK.out]; exact HO8.out.lower (base' := w.heap.size) (by omega)), HB8.out⟩
end Go.Proofs.Ytkdjfoehpioghaa
