/-
  slices' insertion sort of a range, at the element types that the program sorts: turned from the kit's own worked proof of slices.insertionSortCmpFunc at structs.
  Between a row of one's own (Owns) and the kit's words for a row that is being sorted (HoldsK, sortWorldK): there and back. No function of the program is entered.
  slices' swapRange and rotate at the element types that the program sorts: what they leave is a rotation of a part of the row.
-/
import Derived.Test.YtjgbflclhkeibaaMRd
import Derived.Shelf.SlSortCmp.KitK
import Derived.Test.YtjgbflclhkeibaaSortPure
namespace Go.Proofs.Ytjgbflclhkeibaa
open Go.Shelf Go.RowKit Go.Lib Go.Sort
set_option linter.unusedVariables false
/-- what the sort's text leans on -/
structure StEv (P : Program) (k : Nat) : Prop where
  mixed : P.follows .mixedOrders = true
  fIns : P.funcs[102]? = some Try.f102
  fSwap : P.funcs[105]? = some Try.f105
  fRot : P.funcs[104]? = some Try.f104
  fSym : P.funcs[103]? = some Try.f103
  fSt : P.funcs[98]? = some Try.f98
  aE : ∀ w, (isAgg 36).run P w = .ok true w
  zE : ∀ w, (Go.sizeOf 36).run P w = .ok k w
  t0 : P.underlying 0 = some (TypeDesc.tuple #[])
  a0 : ∀ w, (isAgg 0).run P w = .ok false w
  z0 : ∀ w, (Go.sizeOf 0).run P w = .ok 1 w
  v0 : ∀ w, (zeroValue 0).run P w = .ok (Value.tuple #[]) w
  t3 : P.underlying 3 = some (TypeDesc.int IntKind.i64)
  a3 : ∀ w, (isAgg 3).run P w = .ok false w
  z3 : ∀ w, (Go.sizeOf 3).run P w = .ok 1 w
  v3 : ∀ w, (zeroValue 3).run P w = .ok (Value.int IntKind.i64 0) w
  t4 : P.underlying 4 = some (TypeDesc.bool)
  a4 : ∀ w, (isAgg 4).run P w = .ok false w
  z4 : ∀ w, (Go.sizeOf 4).run P w = .ok 1 w
  v4 : ∀ w, (zeroValue 4).run P w = .ok (Value.bool false) w
  t5 : P.underlying 61 = some (TypeDesc.int IntKind.u64)
  a5 : ∀ w, (isAgg 61).run P w = .ok false w
  z5 : ∀ w, (Go.sizeOf 61).run P w = .ok 1 w
  v5 : ∀ w, (zeroValue 61).run P w = .ok (Value.int IntKind.u64 0) w
  t22 : P.underlying 28 = some (TypeDesc.slice 36)
  a22 : ∀ w, (isAgg 28).run P w = .ok false w
  z22 : ∀ w, (Go.sizeOf 28).run P w = .ok 1 w
  v22 : ∀ w, (zeroValue 28).run P w = .ok (Value.slice none 0 0) w
  t25 : P.underlying 151 = some (TypeDesc.func #[36, 36] #[3] false)
  a25 : ∀ w, (isAgg 151).run P w = .ok false w
  z25 : ∀ w, (Go.sizeOf 151).run P w = .ok 1 w
  v25 : ∀ w, (zeroValue 151).run P w = .ok (Value.nilFunc) w

theorem stEv : StEv Try.prog 14 := {
  mixed := by kernel_rfl,
  fIns := Try.func102,
  fSwap := Try.func105,
  fRot := Try.func104,
  fSym := Try.func103,
  fSt := Try.func98,
  aE := fun _ => by kernel_rfl,
  zE := fun _ => by kernel_rfl,
  t0 := by kernel_rfl,
  a0 := fun _ => by kernel_rfl,
  z0 := fun _ => by kernel_rfl,
  v0 := fun _ => by kernel_rfl,
  t3 := by kernel_rfl,
  a3 := fun _ => by kernel_rfl,
  z3 := fun _ => by kernel_rfl,
  v3 := fun _ => by kernel_rfl,
  t4 := by kernel_rfl,
  a4 := fun _ => by kernel_rfl,
  z4 := fun _ => by kernel_rfl,
  v4 := fun _ => by kernel_rfl,
  t5 := by kernel_rfl,
  a5 := fun _ => by kernel_rfl,
  z5 := fun _ => by kernel_rfl,
  v5 := fun _ => by kernel_rfl,
  t22 := by kernel_rfl,
  a22 := fun _ => by kernel_rfl,
  z22 := fun _ => by kernel_rfl,
  v22 := fun _ => by kernel_rfl,
  t25 := by kernel_rfl,
  a25 := fun _ => by kernel_rfl,
  z25 := fun _ => by kernel_rfl,
  v25 := fun _ => by kernel_rfl }


set_option maxHeartbeats 4000000 in
set_option maxRecDepth 1000000 in
theorem insEv {P : Program} {k : Nat} (L : StEv P k) {α : Type} [Inhabited α] (enc : α → List Value) (hk : ∀ x, (enc x).length = k) (h1 : ∀ x, ∀ v ∈ enc x, v.oneCell' = true)
    (cf : α → α → Int) (g : Nat) (cb : Array Value) (blk off cap a b : Nat) (d : Array α) (w : World)
    (eg : ∀ args w, (callFunc g args).run P w = .ok (.enter g args) w) (hcmp : CmpLays P g cb enc k cf blk off d.size w) (hH : HoldsK enc k w blk off d) (hblk : blk < w.heap.size) (hab : a ≤ b) (hb : b ≤ d.size) (hsz : d.size < 4611686018427387904) :
    Calls P 102 #[.slice (some ⟨blk, off, none⟩) d.size cap, .int .i64 a, .int .i64 b, .func (.func g) #[] cb] w fun e w' =>
      e = .returned (.tuple #[]) ∧ ∃ n os, w' = sortWorldK enc k w blk off n (Sort.insertionSort (ltOf cf) d a b) os := by
  have mixed := L.mixed; have aE := L.aE; have zE := L.zE; have t0 := L.t0; have a0 := L.a0; have z0 := L.z0; have v0 := L.v0; have t3 := L.t3; have a3 := L.a3; have z3 := L.z3; have v3 := L.v3; have t4 := L.t4; have a4 := L.a4; have z4 := L.z4; have v4 := L.v4; have t22 := L.t22; have a22 := L.a22; have z22 := L.z22; have v22 := L.v22; have t25 := L.t25; have a25 := L.a25; have z25 := L.z25; have v25 := L.v25; have u22 := run_underlying L.t22
  have HC : Aside _ := hcmp
  have HST : Hid (w = sortWorldK enc k w blk off 0 d #[]) := by show w = _; unfold sortWorldK; rw [grow_empty]; exact (putRowK_self enc k w blk off d hH).symm
  have HH : Hid (HoldsK enc k w blk off d) := hH
  have HK : Hid (∀ x, (enc x).length = k) := hk
  have H1 : Hid (∀ x, ∀ v ∈ enc x, v.oneCell' = true) := h1
  clear hcmp hH hk h1
  have FG := L.fIns
  go_enter FG, Try.ntmps102
  go_wp2
  go_loopg [8] (b - a) (fun g1 vi wr => ∃ (i n : Nat) (dk : Array α) (os : Array Obj), vi = .int .i64 i ∧ a < i ∧ i ≤ b + 1 ∧ b + 1 - i ≤ g1 + 1 ∧ dk.size = d.size ∧ wr = sortWorldK enc k w blk off n dk os ∧ Hid (insOuter (ltOf cf) a b i dk = insOuter (ltOf cf) a b (a + 1) d))
  case atStart => exact ⟨a + 1, 0, d, #[], by go_num, by omega, by omega, by omega, rfl, HST.out, rfl⟩
  case round =>
    obtain ⟨i, n, dk, os, rfl, hai, hib, hg1, hsk, rfl, HO⟩ := hrel
    by_cases hlt : i < b
    · have hltz : (i : Int) < (b : Int) := by omega
      go_wp2
      go_loopg [9] i (fun g2 vj wr2 => ∃ (j m : Nat) (dj : Array α) (oj : Array Obj), vj = .int .i64 j ∧ a ≤ j ∧ j ≤ i ∧ j ≤ g2 ∧ dj.size = d.size ∧ wr2 = sortWorldK enc k w blk off m dj oj ∧ Hid (insInner (ltOf cf) a j dj = insInner (ltOf cf) a i dk))
      case atStart => exact ⟨i, n, dk, os, rfl, by omega, Nat.le_refl _, Nat.le_refl _, hsk, rfl, rfl⟩
      case round =>
        obtain ⟨j, m, dj, oj, rfl, haj, hji, hg2, hsj, rfl, HI⟩ := hrel
        have out : (j ≤ a ∨ ltOf cf dj[j]! dj[j - 1]! = false) → Hid (insOuter (ltOf cf) a b (i + 1) dj = insOuter (ltOf cf) a b (a + 1) d) := fun hs => by
          show _ = _
          rw [← HO.out, insOuter_go _ _ _ _ _ hlt, ← HI.out, insInner_stop _ _ _ _ hs]
        have OUT : Aside _ := out
        clear out
        by_cases hja : a < j
        · have hjaz : (a : Int) < (j : Int) := by omega
          obtain ⟨jp, rfl⟩ : ∃ jp, j = jp + 1 := ⟨j - 1, by omega⟩
          obtain ⟨xj, hxj⟩ : ∃ x, dj[jp + 1]! = x := ⟨_, rfl⟩
          obtain ⟨xp, hxp⟩ : ∃ x, dj[jp]! = x := ⟨_, rfl⟩
          have hwp : IntKind.i64.wrap (jp : Int) = (jp : Int) := by rw [IntKind.wrap_i64]; omega
          have jz : (jp : Int) + 1 < (d.size : Int) := by omega
          have jz1 : (jp : Int) < (d.size : Int) := by omega
          have hjaz' : (a : Int) < (jp : Int) + 1 := by omega
          have p0 : (0 : Int) ≤ (jp : Int) + 1 := by omega
          have e0 : ((jp : Int) + 1).toNat = jp + 1 := by omega
          -- every world of the class is one of the sort's
          have hcls : ∀ n' os', grow ((sortWorldK enc k w blk off m dj oj).drewN n') os' = sortWorldK enc k w blk off (m + n') dj (oj ++ os') := fun n' os' => sortWorldK_grown_c enc k w blk off m n' dj oj os'
          have hHc : ∀ n' os', HoldsK enc k (grow ((sortWorldK enc k w blk off m dj oj).drewN n') os') blk off dj := fun n' os' => by rw [hcls]; exact holdsK_sortWorldK_c enc k w blk off d dj _ _ HH.out hblk hsj
          have lj : ∀ n' os', Sem.run P (loadCellsFrom ⟨blk, off + (jp + 1) * k, none⟩ 0 k #[]) (grow ((sortWorldK enc k w blk off m dj oj).drewN n') os') = .ok (enc xj).toArray (grow ((sortWorldK enc k w blk off m dj oj).drewN n') os') := fun n' os' => by
            rw [← hxj]; exact run_loadCellsFrom_list P _ _ _ k (HK.out _) (HoldsK.cells (hHc n' os') HK.out (by omega))
          have lp : ∀ n' os', Sem.run P (loadCellsFrom ⟨blk, off + jp * k, none⟩ 0 k #[]) (grow ((sortWorldK enc k w blk off m dj oj).drewN n') os') = .ok (enc xp).toArray (grow ((sortWorldK enc k w blk off m dj oj).drewN n') os') := fun n' os' => by
            rw [← hxp]; exact run_loadCellsFrom_list P _ _ _ k (HK.out _) (HoldsK.cells (hHc n' os') HK.out (by omega))
          have hcg : ∀ n' os', Calls P g (#[.agg (enc xj).toArray, .agg (enc xp).toArray] ++ cb) (grow ((sortWorldK enc k w blk off m dj oj).drewN n') os') fun e w' => e = .returned (.int .i64 (cf xj xp)) ∧ ∃ q os'', w' = grow ((grow ((sortWorldK enc k w blk off m dj oj).drewN n') os').drewN q) os'' := fun n' os' => by
            rw [hcls]; exact HC.out _ _ dj hsj xj xp
          have CLS : Hid _ := hcls
          clear hcls hHc
          generalize hwq : sortWorldK enc k w blk off m dj oj = wq at lj lp hcg CLS ⊢
          by_cases hlv : cf xj xp < 0
          · go_wp2_with fail
            go_quiet_grown (first | (go_at_fn g; refine Calls.grown_of (hcg _ _)))
            go_wp2_with fail
            have hw2 : grow (wq.drewN nq) osq = sortWorldK enc k w blk off (m + nq) dj (oj ++ osq) := CLS.out nq osq
            have hHd : HoldsK enc k (grow (wq.drewN nq) osq).drew blk off dj := by
              have : HoldsK enc k (grow (wq.drewN nq) osq) blk off dj := by rw [hw2]; exact holdsK_sortWorldK_c enc k w blk off d dj _ _ HH.out hblk hsj
              exact this
            have bnd : ∀ x, x < dj.size → x * k + k ≤ dj.size * k := fun x hx => by
              have := Nat.mul_le_mul_right k (show x + 1 ≤ dj.size from hx); rwa [Nat.add_mul, Nat.one_mul] at this
            clear lj lp hcg
            generalize grow (wq.drewN nq) osq = wq2 at hw2 hHd ⊢
            have lj2 : Sem.run P (loadCellsFrom ⟨blk, off + (jp + 1) * k, none⟩ 0 k #[]) wq2.drew = .ok (enc xj).toArray wq2.drew := by rw [← hxj]; exact run_loadCellsFrom_list P _ _ _ k (HK.out _) (HoldsK.cells hHd HK.out (by omega))
            have lp2 : Sem.run P (loadCellsFrom ⟨blk, off + jp * k, none⟩ 0 k #[]) wq2.drew = .ok (enc xp).toArray wq2.drew := by rw [← hxp]; exact run_loadCellsFrom_list P _ _ _ k (HK.out _) (HoldsK.cells hHd HK.out (by omega))
            have s1 : Sem.run P (storeCells ⟨blk, off + (jp + 1) * k, none⟩ (enc xp) 0) wq2.drew = .ok () (wq2.drew.setCells blk (off + (jp + 1) * k) (enc xp)) := stores_of_holds P hHd ((jp + 1) * k) _ (by rw [HK.out, size_flatK]; exact bnd (jp + 1) (by omega)) (H1.out _)
            have s2 : Sem.run P (storeCells ⟨blk, off + jp * k, none⟩ (enc xj) 0) (wq2.drew.setCells blk (off + (jp + 1) * k) (enc xp)) = .ok () ((wq2.drew.setCells blk (off + (jp + 1) * k) (enc xp)).setCells blk (off + jp * k) (enc xj)) :=
              stores_of_holds P (holds_setCells_c hHd ((jp + 1) * k) _ (by rw [HK.out, size_flatK]; exact bnd (jp + 1) (by omega))) (jp * k) _ (by rw [HK.out, size_setMany, size_flatK]; exact bnd jp (by omega)) (H1.out _)
            have hsJ : (enc xj).length = k := HK.out _
            have hsP : (enc xp).length = k := HK.out _
            have HW2 : Hid (wq2 = sortWorldK enc k w blk off (m + nq) dj (oj ++ osq)) := hw2
            clear hw2 hHd bnd
            obtain ⟨cJ, hcJ⟩ : ∃ c, c = enc xj := ⟨_, rfl⟩
            obtain ⟨cP, hcP⟩ : ∃ c, c = enc xp := ⟨_, rfl⟩
            rw [← hcP] at s1 lp2 hsP
            rw [← hcJ] at lj2 hsJ
            rw [← hcJ, ← hcP] at s2
            have CC : Hid (cJ = enc xj ∧ cP = enc xp) := ⟨hcJ, hcP⟩
            clear hcJ hcP
            go_big_region_o
            all_goals go_wp2
            go_roundg jp
            case measure => omega
            case rel =>
              refine ⟨jp, m + nq + 1, swp dj (jp + 1) jp, oj ++ osq, by first | rfl | go_num | (congr 1; omega), by omega, by omega, Nat.le_refl _, by rw [size_swp]; exact hsj, ?_, (show Hid _ from ?_)⟩
              · rw [CC.out.1, CC.out.2, HW2.out, ← hxp, ← hxj]
                exact sortWorldK_swp_c enc k w blk off HK.out (m + nq) dj (oj ++ osq) hblk (jp + 1) jp (by omega) (by omega)
              · show _ = _
                have := insInner_go (ltOf cf) a (jp + 1) dj hja (by simp only [Nat.add_sub_cancel]; rw [hxj, hxp]; exact decide_eq_true hlv)
                simp only [Nat.add_sub_cancel] at this
                rw [← HI.out, this]
          · -- not less: out of the inner loop
            go_wp2_with fail
            go_quiet_grown (first | (go_at_fn g; refine Calls.grown_of (hcg _ _)))
            go_wp2
            go_roundg (b - (i + 1))
            case measure => omega
            case rel => exact ⟨i + 1, _, dj, _, by go_num, by omega, by omega, by omega, hsj, CLS.out nq osq, OUT.out (Or.inr (by simp only [Nat.add_sub_cancel]; rw [hxj, hxp]; exact decide_eq_false (by omega)))⟩
        · -- j = a: out of the inner loop (the guard is false: 'cmp' is not called)
          have hjaz : decide ((j : Int) > (a : Int)) = false := decide_eq_false (by omega)
          have hjaz' : ¬ (a : Int) < (j : Int) := by omega
          have hdr : (sortWorldK enc k w blk off m dj oj).drew = sortWorldK enc k w blk off (m + 1) dj oj := rfl
          generalize hwq : sortWorldK enc k w blk off m dj oj = wq at hdr
          have HDR : Hid _ := hdr
          clear hdr
          go_wp2_with fail
          go_big_region_o
          all_goals go_wp2
          go_roundg (b - (i + 1))
          case measure => omega
          case rel => exact ⟨i + 1, m + 1, dj, oj, by go_num, by omega, by omega, by omega, hsj, HDR.out, OUT.out (Or.inl (by omega))⟩
    · have hltz : ¬ (i : Int) < (b : Int) := by omega
      go_wp2
      go_end0
      exact ⟨rfl, n, os, by unfold Sort.insertionSort; rw [← HO.out, insOuter_stop _ _ _ _ _ hlt]⟩

/-- what the sort's text leans on -/
structure StLa (P : Program) (k : Nat) : Prop where
  mixed : P.follows .mixedOrders = true
  fIns : P.funcs[83]? = some Try.f83
  fSwap : P.funcs[101]? = some Try.f101
  fRot : P.funcs[97]? = some Try.f97
  fSym : P.funcs[84]? = some Try.f84
  fSt : P.funcs[63]? = some Try.f63
  aE : ∀ w, (isAgg 103).run P w = .ok true w
  zE : ∀ w, (Go.sizeOf 103).run P w = .ok k w
  t0 : P.underlying 0 = some (TypeDesc.tuple #[])
  a0 : ∀ w, (isAgg 0).run P w = .ok false w
  z0 : ∀ w, (Go.sizeOf 0).run P w = .ok 1 w
  v0 : ∀ w, (zeroValue 0).run P w = .ok (Value.tuple #[]) w
  t3 : P.underlying 3 = some (TypeDesc.int IntKind.i64)
  a3 : ∀ w, (isAgg 3).run P w = .ok false w
  z3 : ∀ w, (Go.sizeOf 3).run P w = .ok 1 w
  v3 : ∀ w, (zeroValue 3).run P w = .ok (Value.int IntKind.i64 0) w
  t4 : P.underlying 4 = some (TypeDesc.bool)
  a4 : ∀ w, (isAgg 4).run P w = .ok false w
  z4 : ∀ w, (Go.sizeOf 4).run P w = .ok 1 w
  v4 : ∀ w, (zeroValue 4).run P w = .ok (Value.bool false) w
  t5 : P.underlying 61 = some (TypeDesc.int IntKind.u64)
  a5 : ∀ w, (isAgg 61).run P w = .ok false w
  z5 : ∀ w, (Go.sizeOf 61).run P w = .ok 1 w
  v5 : ∀ w, (zeroValue 61).run P w = .ok (Value.int IntKind.u64 0) w
  t22 : P.underlying 101 = some (TypeDesc.slice 103)
  a22 : ∀ w, (isAgg 101).run P w = .ok false w
  z22 : ∀ w, (Go.sizeOf 101).run P w = .ok 1 w
  v22 : ∀ w, (zeroValue 101).run P w = .ok (Value.slice none 0 0) w
  t25 : P.underlying 105 = some (TypeDesc.func #[103, 103] #[3] false)
  a25 : ∀ w, (isAgg 105).run P w = .ok false w
  z25 : ∀ w, (Go.sizeOf 105).run P w = .ok 1 w
  v25 : ∀ w, (zeroValue 105).run P w = .ok (Value.nilFunc) w

theorem stLa : StLa Try.prog 14 := {
  mixed := by kernel_rfl,
  fIns := Try.func83,
  fSwap := Try.func101,
  fRot := Try.func97,
  fSym := Try.func84,
  fSt := Try.func63,
  aE := fun _ => by kernel_rfl,
  zE := fun _ => by kernel_rfl,
  t0 := by kernel_rfl,
  a0 := fun _ => by kernel_rfl,
  z0 := fun _ => by kernel_rfl,
  v0 := fun _ => by kernel_rfl,
  t3 := by kernel_rfl,
  a3 := fun _ => by kernel_rfl,
  z3 := fun _ => by kernel_rfl,
  v3 := fun _ => by kernel_rfl,
  t4 := by kernel_rfl,
  a4 := fun _ => by kernel_rfl,
  z4 := fun _ => by kernel_rfl,
  v4 := fun _ => by kernel_rfl,
  t5 := by kernel_rfl,
  a5 := fun _ => by kernel_rfl,
  z5 := fun _ => by kernel_rfl,
  v5 := fun _ => by kernel_rfl,
  t22 := by kernel_rfl,
  a22 := fun _ => by kernel_rfl,
  z22 := fun _ => by kernel_rfl,
  v22 := fun _ => by kernel_rfl,
  t25 := by kernel_rfl,
  a25 := fun _ => by kernel_rfl,
  z25 := fun _ => by kernel_rfl,
  v25 := fun _ => by kernel_rfl }


set_option maxHeartbeats 4000000 in
set_option maxRecDepth 1000000 in
theorem insLa {P : Program} {k : Nat} (L : StLa P k) {α : Type} [Inhabited α] (enc : α → List Value) (hk : ∀ x, (enc x).length = k) (h1 : ∀ x, ∀ v ∈ enc x, v.oneCell' = true)
    (cf : α → α → Int) (g : Nat) (cb : Array Value) (blk off cap a b : Nat) (d : Array α) (w : World)
    (eg : ∀ args w, (callFunc g args).run P w = .ok (.enter g args) w) (hcmp : CmpLays P g cb enc k cf blk off d.size w) (hH : HoldsK enc k w blk off d) (hblk : blk < w.heap.size) (hab : a ≤ b) (hb : b ≤ d.size) (hsz : d.size < 4611686018427387904) :
    Calls P 83 #[.slice (some ⟨blk, off, none⟩) d.size cap, .int .i64 a, .int .i64 b, .func (.func g) #[] cb] w fun e w' =>
      e = .returned (.tuple #[]) ∧ ∃ n os, w' = sortWorldK enc k w blk off n (Sort.insertionSort (ltOf cf) d a b) os := by
  have mixed := L.mixed; have aE := L.aE; have zE := L.zE; have t0 := L.t0; have a0 := L.a0; have z0 := L.z0; have v0 := L.v0; have t3 := L.t3; have a3 := L.a3; have z3 := L.z3; have v3 := L.v3; have t4 := L.t4; have a4 := L.a4; have z4 := L.z4; have v4 := L.v4; have t22 := L.t22; have a22 := L.a22; have z22 := L.z22; have v22 := L.v22; have t25 := L.t25; have a25 := L.a25; have z25 := L.z25; have v25 := L.v25; have u22 := run_underlying L.t22
  have HC : Aside _ := hcmp
  have HST : Hid (w = sortWorldK enc k w blk off 0 d #[]) := by show w = _; unfold sortWorldK; rw [grow_empty]; exact (putRowK_self enc k w blk off d hH).symm
  have HH : Hid (HoldsK enc k w blk off d) := hH
  have HK : Hid (∀ x, (enc x).length = k) := hk
  have H1 : Hid (∀ x, ∀ v ∈ enc x, v.oneCell' = true) := h1
  clear hcmp hH hk h1
  have FG := L.fIns
  go_enter FG, Try.ntmps83
  go_wp2
  go_loopg [8] (b - a) (fun g1 vi wr => ∃ (i n : Nat) (dk : Array α) (os : Array Obj), vi = .int .i64 i ∧ a < i ∧ i ≤ b + 1 ∧ b + 1 - i ≤ g1 + 1 ∧ dk.size = d.size ∧ wr = sortWorldK enc k w blk off n dk os ∧ Hid (insOuter (ltOf cf) a b i dk = insOuter (ltOf cf) a b (a + 1) d))
  case atStart => exact ⟨a + 1, 0, d, #[], by go_num, by omega, by omega, by omega, rfl, HST.out, rfl⟩
  case round =>
    obtain ⟨i, n, dk, os, rfl, hai, hib, hg1, hsk, rfl, HO⟩ := hrel
    by_cases hlt : i < b
    · have hltz : (i : Int) < (b : Int) := by omega
      go_wp2
      go_loopg [9] i (fun g2 vj wr2 => ∃ (j m : Nat) (dj : Array α) (oj : Array Obj), vj = .int .i64 j ∧ a ≤ j ∧ j ≤ i ∧ j ≤ g2 ∧ dj.size = d.size ∧ wr2 = sortWorldK enc k w blk off m dj oj ∧ Hid (insInner (ltOf cf) a j dj = insInner (ltOf cf) a i dk))
      case atStart => exact ⟨i, n, dk, os, rfl, by omega, Nat.le_refl _, Nat.le_refl _, hsk, rfl, rfl⟩
      case round =>
        obtain ⟨j, m, dj, oj, rfl, haj, hji, hg2, hsj, rfl, HI⟩ := hrel
        have out : (j ≤ a ∨ ltOf cf dj[j]! dj[j - 1]! = false) → Hid (insOuter (ltOf cf) a b (i + 1) dj = insOuter (ltOf cf) a b (a + 1) d) := fun hs => by
          show _ = _
          rw [← HO.out, insOuter_go _ _ _ _ _ hlt, ← HI.out, insInner_stop _ _ _ _ hs]
        have OUT : Aside _ := out
        clear out
        by_cases hja : a < j
        · have hjaz : (a : Int) < (j : Int) := by omega
          obtain ⟨jp, rfl⟩ : ∃ jp, j = jp + 1 := ⟨j - 1, by omega⟩
          obtain ⟨xj, hxj⟩ : ∃ x, dj[jp + 1]! = x := ⟨_, rfl⟩
          obtain ⟨xp, hxp⟩ : ∃ x, dj[jp]! = x := ⟨_, rfl⟩
          have hwp : IntKind.i64.wrap (jp : Int) = (jp : Int) := by rw [IntKind.wrap_i64]; omega
          have jz : (jp : Int) + 1 < (d.size : Int) := by omega
          have jz1 : (jp : Int) < (d.size : Int) := by omega
          have hjaz' : (a : Int) < (jp : Int) + 1 := by omega
          have p0 : (0 : Int) ≤ (jp : Int) + 1 := by omega
          have e0 : ((jp : Int) + 1).toNat = jp + 1 := by omega
          -- every world of the class is one of the sort's
          have hcls : ∀ n' os', grow ((sortWorldK enc k w blk off m dj oj).drewN n') os' = sortWorldK enc k w blk off (m + n') dj (oj ++ os') := fun n' os' => sortWorldK_grown_c enc k w blk off m n' dj oj os'
          have hHc : ∀ n' os', HoldsK enc k (grow ((sortWorldK enc k w blk off m dj oj).drewN n') os') blk off dj := fun n' os' => by rw [hcls]; exact holdsK_sortWorldK_c enc k w blk off d dj _ _ HH.out hblk hsj
          have lj : ∀ n' os', Sem.run P (loadCellsFrom ⟨blk, off + (jp + 1) * k, none⟩ 0 k #[]) (grow ((sortWorldK enc k w blk off m dj oj).drewN n') os') = .ok (enc xj).toArray (grow ((sortWorldK enc k w blk off m dj oj).drewN n') os') := fun n' os' => by
            rw [← hxj]; exact run_loadCellsFrom_list P _ _ _ k (HK.out _) (HoldsK.cells (hHc n' os') HK.out (by omega))
          have lp : ∀ n' os', Sem.run P (loadCellsFrom ⟨blk, off + jp * k, none⟩ 0 k #[]) (grow ((sortWorldK enc k w blk off m dj oj).drewN n') os') = .ok (enc xp).toArray (grow ((sortWorldK enc k w blk off m dj oj).drewN n') os') := fun n' os' => by
            rw [← hxp]; exact run_loadCellsFrom_list P _ _ _ k (HK.out _) (HoldsK.cells (hHc n' os') HK.out (by omega))
          have hcg : ∀ n' os', Calls P g (#[.agg (enc xj).toArray, .agg (enc xp).toArray] ++ cb) (grow ((sortWorldK enc k w blk off m dj oj).drewN n') os') fun e w' => e = .returned (.int .i64 (cf xj xp)) ∧ ∃ q os'', w' = grow ((grow ((sortWorldK enc k w blk off m dj oj).drewN n') os').drewN q) os'' := fun n' os' => by
            rw [hcls]; exact HC.out _ _ dj hsj xj xp
          have CLS : Hid _ := hcls
          clear hcls hHc
          generalize hwq : sortWorldK enc k w blk off m dj oj = wq at lj lp hcg CLS ⊢
          by_cases hlv : cf xj xp < 0
          · go_wp2_with fail
            go_quiet_grown (first | (go_at_fn g; refine Calls.grown_of (hcg _ _)))
            go_wp2_with fail
            have hw2 : grow (wq.drewN nq) osq = sortWorldK enc k w blk off (m + nq) dj (oj ++ osq) := CLS.out nq osq
            have hHd : HoldsK enc k (grow (wq.drewN nq) osq).drew blk off dj := by
              have : HoldsK enc k (grow (wq.drewN nq) osq) blk off dj := by rw [hw2]; exact holdsK_sortWorldK_c enc k w blk off d dj _ _ HH.out hblk hsj
              exact this
            have bnd : ∀ x, x < dj.size → x * k + k ≤ dj.size * k := fun x hx => by
              have := Nat.mul_le_mul_right k (show x + 1 ≤ dj.size from hx); rwa [Nat.add_mul, Nat.one_mul] at this
            clear lj lp hcg
            generalize grow (wq.drewN nq) osq = wq2 at hw2 hHd ⊢
            have lj2 : Sem.run P (loadCellsFrom ⟨blk, off + (jp + 1) * k, none⟩ 0 k #[]) wq2.drew = .ok (enc xj).toArray wq2.drew := by rw [← hxj]; exact run_loadCellsFrom_list P _ _ _ k (HK.out _) (HoldsK.cells hHd HK.out (by omega))
            have lp2 : Sem.run P (loadCellsFrom ⟨blk, off + jp * k, none⟩ 0 k #[]) wq2.drew = .ok (enc xp).toArray wq2.drew := by rw [← hxp]; exact run_loadCellsFrom_list P _ _ _ k (HK.out _) (HoldsK.cells hHd HK.out (by omega))
            have s1 : Sem.run P (storeCells ⟨blk, off + (jp + 1) * k, none⟩ (enc xp) 0) wq2.drew = .ok () (wq2.drew.setCells blk (off + (jp + 1) * k) (enc xp)) := stores_of_holds P hHd ((jp + 1) * k) _ (by rw [HK.out, size_flatK]; exact bnd (jp + 1) (by omega)) (H1.out _)
            have s2 : Sem.run P (storeCells ⟨blk, off + jp * k, none⟩ (enc xj) 0) (wq2.drew.setCells blk (off + (jp + 1) * k) (enc xp)) = .ok () ((wq2.drew.setCells blk (off + (jp + 1) * k) (enc xp)).setCells blk (off + jp * k) (enc xj)) :=
              stores_of_holds P (holds_setCells_c hHd ((jp + 1) * k) _ (by rw [HK.out, size_flatK]; exact bnd (jp + 1) (by omega))) (jp * k) _ (by rw [HK.out, size_setMany, size_flatK]; exact bnd jp (by omega)) (H1.out _)
            have hsJ : (enc xj).length = k := HK.out _
            have hsP : (enc xp).length = k := HK.out _
            have HW2 : Hid (wq2 = sortWorldK enc k w blk off (m + nq) dj (oj ++ osq)) := hw2
            clear hw2 hHd bnd
            obtain ⟨cJ, hcJ⟩ : ∃ c, c = enc xj := ⟨_, rfl⟩
            obtain ⟨cP, hcP⟩ : ∃ c, c = enc xp := ⟨_, rfl⟩
            rw [← hcP] at s1 lp2 hsP
            rw [← hcJ] at lj2 hsJ
            rw [← hcJ, ← hcP] at s2
            have CC : Hid (cJ = enc xj ∧ cP = enc xp) := ⟨hcJ, hcP⟩
            clear hcJ hcP
            go_big_region_o
            all_goals go_wp2
            go_roundg jp
            case measure => omega
            case rel =>
              refine ⟨jp, m + nq + 1, swp dj (jp + 1) jp, oj ++ osq, by first | rfl | go_num | (congr 1; omega), by omega, by omega, Nat.le_refl _, by rw [size_swp]; exact hsj, ?_, (show Hid _ from ?_)⟩
              · rw [CC.out.1, CC.out.2, HW2.out, ← hxp, ← hxj]
                exact sortWorldK_swp_c enc k w blk off HK.out (m + nq) dj (oj ++ osq) hblk (jp + 1) jp (by omega) (by omega)
              · show _ = _
                have := insInner_go (ltOf cf) a (jp + 1) dj hja (by simp only [Nat.add_sub_cancel]; rw [hxj, hxp]; exact decide_eq_true hlv)
                simp only [Nat.add_sub_cancel] at this
                rw [← HI.out, this]
          · -- not less: out of the inner loop
            go_wp2_with fail
            go_quiet_grown (first | (go_at_fn g; refine Calls.grown_of (hcg _ _)))
            go_wp2
            go_roundg (b - (i + 1))
            case measure => omega
            case rel => exact ⟨i + 1, _, dj, _, by go_num, by omega, by omega, by omega, hsj, CLS.out nq osq, OUT.out (Or.inr (by simp only [Nat.add_sub_cancel]; rw [hxj, hxp]; exact decide_eq_false (by omega)))⟩
        · -- j = a: out of the inner loop (the guard is false: 'cmp' is not called)
          have hjaz : decide ((j : Int) > (a : Int)) = false := decide_eq_false (by omega)
          have hjaz' : ¬ (a : Int) < (j : Int) := by omega
          have hdr : (sortWorldK enc k w blk off m dj oj).drew = sortWorldK enc k w blk off (m + 1) dj oj := rfl
          generalize hwq : sortWorldK enc k w blk off m dj oj = wq at hdr
          have HDR : Hid _ := hdr
          clear hdr
          go_wp2_with fail
          go_big_region_o
          all_goals go_wp2
          go_roundg (b - (i + 1))
          case measure => omega
          case rel => exact ⟨i + 1, m + 1, dj, oj, by go_num, by omega, by omega, by omega, hsj, HDR.out, OUT.out (Or.inl (by omega))⟩
    · have hltz : ¬ (i : Int) < (b : Int) := by omega
      go_wp2
      go_end0
      exact ⟨rfl, n, os, by unfold Sort.insertionSort; rw [← HO.out, insOuter_stop _ _ _ _ _ hlt]⟩

end Go.Proofs.Ytjgbflclhkeibaa
namespace Go.Proofs.Ytjgbflclhkeibaa
open Go.Shelf Go.RowKit Go.Lib Go.Sort
set_option linter.unusedVariables false
variable {α : Type} [Inhabited α]

theorem flatK_toList (enc : α → List Value) (k : Nat) (k0 : 0 < k) (hk : ∀ x, (enc x).length = k) (l : List α) : (flatK enc k l.toArray).toList = l.flatMap enc := by
  apply List.ext_getElem?
  intro j
  by_cases hj : j < l.length * k
  · have hj' : j < (flatK enc k l.toArray).size := by simpa using hj
    rw [Array.getElem?_toList, Array.getElem?_eq_getElem hj']
    have hd : j / k < l.length := (Nat.div_lt_iff_lt_mul k0).2 hj
    have hm : j % k < k := Nat.mod_lt _ k0
    have e : (l.flatMap enc)[j / k * k + j % k]? = (enc l[j / k])[j % k]? := flat_at enc k hk l (j / k) (j % k) hd hm
    have e2 : j / k * k + j % k = j := by have := Nat.div_add_mod j k; rw [Nat.mul_comm] at this; exact this
    rw [e2] at e
    rw [e, List.getElem?_eq_getElem (by rw [hk]; exact hm)]
    have g := get_flatK enc k l.toArray j (by simpa using hj)
    rw [getElem!_pos _ j hj'] at g
    rw [g, getElem!_pos l.toArray (j / k) (by simpa using hd)]
    simp [getElem!_pos, hk, hm]
  · rw [Array.getElem?_toList, Array.getElem?_eq_none (by simpa using hj), List.getElem?_eq_none (by rw [flat_len enc k hk]; omega)]

theorem owns_holds {enc : α → List Value} {k base e : Nat} (k0 : 0 < k) (hk : ∀ x, (enc x).length = k) {w : World} {g n cap : Nat} {l : List α} (h : Owns enc k base e w (.slice (some ⟨g, 0, none⟩) n cap) l) : HoldsK enc k w g 0 l.toArray := by
  rcases h.2 with ⟨h, _⟩ | ⟨g', cap', cur, hv, hb, hh, hc, hm, hs, ht⟩
  · cases h
  · simp only [Value.slice.injEq, Option.some.injEq, Addr.mk.injEq] at hv
    obtain ⟨⟨rfl, _, _⟩, _, _⟩ := hv
    intro j hj
    have hj' : j < l.length * k := by simpa using hj
    refine ⟨?_, by simp [World.frozen?, hh]⟩
    have e1 : (flatK enc k l.toArray)[j]! = (flatK enc k l.toArray)[j] := getElem!_pos _ j hj
    have e2 : (l.flatMap enc)[j]? = some ((flatK enc k l.toArray)[j]) := by rw [← flatK_toList enc k k0 hk, Array.getElem?_toList, Array.getElem?_eq_getElem hj]
    have e3 := World.ownsRow.cells h (g := g) rfl j _ e2
    rw [Addr.add_lit] at e3
    rw [e1]
    exact e3

theorem grownBy_sort {enc : α → List Value} {k : Nat} {w : World} {g n : Nat} {os : Array Obj} (d : Array α) : w.grownBy (sortWorldK enc k w g 0 n d os) (some g) := by
  unfold sortWorldK putRowK
  refine ⟨rfl, rfl, rfl, by simp, fun k hk hne => ?_⟩
  rw [heap_grow_old _ _ (by simpa using hk)]
  have : g ≠ k := fun e => hne (by rw [e])
  simp [putRow, mapBlock, Sort.ahead, Array.getElem?_modify, this]

theorem owns_sorted {enc : α → List Value} {k base e : Nat} (k0 : 0 < k) (hk : ∀ x, (enc x).length = k) {w : World} {g n c cap : Nat} {os : Array Obj} {l : List α} (h : Owns enc k base e w (.slice (some ⟨g, 0, none⟩) n cap) l) (d : Array α) (hs : d.size = l.length) :
    Owns enc k base e (sortWorldK enc k w g 0 c d os) (.slice (some ⟨g, 0, none⟩) n cap) d.toList := by
  rcases h.2 with ⟨h, _⟩ | ⟨g', cap', cur, hv, hb, hh, hc, hm, hcs, ht⟩
  · cases h
  · simp only [Value.slice.injEq, Option.some.injEq, Addr.mk.injEq] at hv
    obtain ⟨⟨rfl, _, _⟩, rfl, rfl⟩ := hv
    have hlen : d.toList.length = l.length := by simpa using hs
    refine ⟨flat_len enc k hk _, .inr ⟨g, cap, putCells id 0 (flatK enc k d) cur, by rw [hlen], hb, ?_, by rw [hlen]; exact hc, hm, by simp [putCells, hcs], ?_⟩⟩
    · have hg : g < w.heap.size := (Array.getElem?_eq_some_iff.1 hh).1
      unfold sortWorldK putRowK
      rw [heap_grow_old _ _ (by simpa using hg)]
      simp [putRow, mapBlock, Sort.ahead, Array.getElem?_modify, hh, onCells]
    · have e1 : (flatK enc k d).toList = d.toList.flatMap enc := by have := flatK_toList enc k k0 hk d.toList; simpa using this
      rw [← e1]
      have hsz : (flatK enc k d).size = d.toList.length * k := by simp
      have hle : d.toList.length * k ≤ cur.size := by rw [hcs, hlen]; exact Nat.mul_le_mul_right _ hc
      apply List.ext_getElem?
      intro j
      by_cases hj : j < d.toList.length * k
      · have hjF : j < (flatK enc k d).size := by omega
        have hjc : j < cur.size := by omega
        have hp : (putCells id 0 (flatK enc k d) cur)[j]? = some ((flatK enc k d)[j]!) := by
          have hjc2 : j < (putCells id 0 (flatK enc k d) cur).size := by simp only [putCells, Array.size_mapIdx]; exact hjc
          rw [Array.getElem?_eq_getElem hjc2]
          congr 1
          simp only [putCells, Array.getElem_mapIdx, Nat.zero_le, true_and, Nat.zero_add, Nat.sub_zero, id]
          rw [if_pos hjF]
        rw [List.getElem?_take_of_lt hj, Array.getElem?_toList, Array.getElem?_toList, hp, Array.getElem?_eq_getElem hjF, getElem!_pos _ j hjF]
      · rw [List.getElem?_take_eq_none (by omega), Array.getElem?_toList, Array.getElem?_eq_none (by omega)]
end Go.Proofs.Ytjgbflclhkeibaa
namespace Go.Proofs.Ytjgbflclhkeibaa
open Go.Shelf Go.RowKit Go.Lib Go.Sort
set_option linter.unusedVariables false
set_option maxHeartbeats 4000000 in
set_option maxRecDepth 1000000 in
theorem swapRangeEv {P : Program} {k : Nat} (L : StEv P k) {α : Type} [Inhabited α] (enc : α → List Value) (fv : Value) (blk off cap a b n : Nat) (d0 d : Array α) (w0 w : World)
    (R : RowK enc k w0 blk off d0) (hs : d0.size = d.size) (S : SWK enc k w0 blk off d w) (ha : a + n ≤ d.size) (hb : b + n ≤ d.size) (hsz : d.size < 4611686018427387904) :
    Calls P 105 #[.slice (some ⟨blk, off, none⟩) d.size cap, .int .i64 a, .int .i64 b, .int .i64 n, fv] w fun e w' =>
      e = .returned (.tuple #[]) ∧ SWK enc k w0 blk off (swpN d a b n) w' := by
  have mixed := L.mixed; have aE := L.aE; have zE := L.zE; have t0 := L.t0; have a0 := L.a0; have z0 := L.z0; have v0 := L.v0; have t3 := L.t3; have a3 := L.a3; have z3 := L.z3; have v3 := L.v3; have t4 := L.t4; have a4 := L.a4; have z4 := L.z4; have v4 := L.v4; have t22 := L.t22; have a22 := L.a22; have z22 := L.z22; have v22 := L.v22; have t25 := L.t25; have a25 := L.a25; have z25 := L.z25; have v25 := L.v25; have u22 := run_underlying L.t22
  have FG := L.fSwap
  have S0 : Aside _ := S
  clear S
  go_enter FG, Try.ntmps105
  go_wp2
  go_loopg [10] n (fun gk s10 wr => ∃ (i : Nat), s10 = .int .i64 i ∧ i ≤ n ∧ n - i ≤ gk ∧ Aside (SWK enc k w0 blk off (swpN d a b i) wr))
  case atStart => exact ⟨0, rfl, Nat.zero_le _, Nat.le_refl _, S0⟩
  case round =>
    clear S0
    obtain ⟨i, rfl, hin, hg, S1⟩ := hrel
    by_cases hlt : i < n
    · have hltz : (i : Int) < (n : Int) := by omega
      have hds := size_swpN d a b i
      have HD : Hid _ := hds
      have hdi : (swpN d a b i).size ≤ d.size := by omega
      have hdi2 : d.size ≤ (swpN d a b i).size := by omega
      clear hds
      have ea : ((a : Int) + (i : Int)).toNat = a + i := by omega
      have pa : (0 : Int) ≤ (a : Int) + (i : Int) := by omega
      have ba : (a : Int) + (i : Int) < (d.size : Int) := by omega
      have ra : IntKind.i64.wrap ((a : Int) + (i : Int)) = (a : Int) + (i : Int) := by rw [IntKind.wrap_i64]; omega
      have eb : ((b : Int) + (i : Int)).toNat = b + i := by omega
      have pb : (0 : Int) ≤ (b : Int) + (i : Int) := by omega
      have bb : (b : Int) + (i : Int) < (d.size : Int) := by omega
      have rb : IntKind.i64.wrap ((b : Int) + (i : Int)) = (b : Int) + (i : Int) := by rw [IntKind.wrap_i64]; omega
      obtain ⟨dj, hdj⟩ : ∃ x, x = swpN d a b i := ⟨_, rfl⟩
      rw [← hdj] at S1 hdi hdi2 HD
      have HDJ : Hid _ := hdj
      clear hdj
      have S2 : Aside (SWK enc k w0 blk off (swp dj (a + i) (b + i)) ((wr.drew.setCells blk (off + (a + i) * k) (enc dj[b + i]!)).setCells blk (off + (b + i) * k) (enc dj[a + i]!))) := S1.out.swapped R (a + i) (b + i) (by omega) (by omega)
      have la := S1.out.ld1 R (by omega) P (a + i) (by omega)
      have lb := S1.out.ld1 R (by omega) P (b + i) (by omega)
      have sa := S1.out.st1 R (by omega) P (a + i) (by omega) dj[b + i]!
      have sb := S1.out.st2 R (by omega) P (a + i) (b + i) (by omega) (by omega) dj[b + i]! dj[a + i]!
      have na : (enc dj[a + i]!).length = k := R.hk _
      have nb : (enc dj[b + i]!).length = k := R.hk _
      generalize enc dj[a + i]! = cI at S2 la sb na
      generalize enc dj[b + i]! = cJ at S2 lb sa sb nb
      clear S1
      go_wp2_with fail
      go_big_region_o
      clear la lb sa sb
      generalize (wr.drew.setCells blk (off + (a + i) * k) cJ).setCells blk (off + (b + i) * k) cI = w2 at S2 ⊢
      go_wp2
      go_roundg (n - (i + 1))
      case measure => omega
      case rel => exact ⟨i + 1, by go_num, by omega, by omega, by rw [swpN, ← HDJ.out]; exact S2⟩
    · have hltz : ¬ (i : Int) < (n : Int) := by omega
      go_wp2
      go_end0
      obtain rfl : i = n := by omega
      exact ⟨rfl, S1.out⟩

set_option maxHeartbeats 4000000 in
set_option maxRecDepth 1000000 in
theorem rotateEv {P : Program} {k : Nat} (L : StEv P k) {α : Type} [Inhabited α] (enc : α → List Value) (fv : Value) (blk off cap a m b : Nat) (d0 d : Array α) (w0 w : World)
    (R : RowK enc k w0 blk off d0) (hs : d0.size = d.size) (S : SWK enc k w0 blk off d w) (ha : a < m) (hm : m < b) (hb : b ≤ d.size) (hsz : d.size < 4611686018427387904) :
    Calls P 104 #[.slice (some ⟨blk, off, none⟩) d.size cap, .int .i64 a, .int .i64 m, .int .i64 b, fv] w fun e w' =>
      e = .returned (.tuple #[]) ∧ SWK enc k w0 blk off (rotA d a m b) w' := by
  have mixed := L.mixed; have aE := L.aE; have zE := L.zE; have t0 := L.t0; have a0 := L.a0; have z0 := L.z0; have v0 := L.v0; have t3 := L.t3; have a3 := L.a3; have z3 := L.z3; have v3 := L.v3; have t4 := L.t4; have a4 := L.a4; have z4 := L.z4; have v4 := L.v4; have t22 := L.t22; have a22 := L.a22; have z22 := L.z22; have v22 := L.v22; have t25 := L.t25; have a25 := L.a25; have z25 := L.z25; have v25 := L.v25; have u22 := run_underlying L.t22
  have FG := L.fRot
  have eS : ∀ args w, (callFunc 105 args).run P w = .ok (.enter 105 args) w := enters_of L.fSwap (by kernel_rfl) rfl
  have S0 : Aside _ := S
  clear S
  have c1 : (m : Int) - (a : Int) = ((m - a : Nat) : Int) := by omega
  have c2 : (b : Int) - (m : Int) = ((b - m : Nat) : Int) := by omega
  go_enter FG, Try.ntmps104
  go_wp2
  go_loopg [10, 11] (b - a) (fun gk s10 s11 wr => ∃ (i j : Nat) (dk : Array α), s10 = .int .i64 i ∧ s11 = .int .i64 j ∧ 0 < i ∧ 0 < j ∧ i ≤ m - a ∧ j ≤ b - m ∧ i + j ≤ gk ∧ dk.size = d.size ∧ Aside (SWK enc k w0 blk off dk wr) ∧ Hid (rotA dk (m - i) m (m + j) = rotA d a m b))
  case atStart => exact ⟨m - a, b - m, d, by first | rfl | rw [c1], by first | rfl | rw [c2], by omega, by omega, Nat.le_refl _, Nat.le_refl _, by omega, rfl, S0, by show _ = _; congr 1 <;> omega⟩
  case round =>
    clear S0 c1 c2
    obtain ⟨i, j, dk, rfl, rfl, hi0, hj0, him, hjm, hg, hds, S1, HE⟩ := hrel
    have HD : Hid _ := hds
    have hd1 : dk.size ≤ d.size := by omega
    have hd2 : d.size ≤ dk.size := by omega
    have q1 : (m : Int) - (i : Int) = ((m - i : Nat) : Int) := by omega
    have r1 : IntKind.i64.wrap ((m : Int) - (i : Int)) = ((m - i : Nat) : Int) := by rw [IntKind.wrap_i64]; omega
    have q2 : (m : Int) + (j : Int) - (i : Int) = ((m + j - i : Nat) : Int) := by omega
    have Q1 := Lib.hid q1
    have Q2 := Lib.hid q2
    clear q1 q2 hds r1
    by_cases hij : i = j
    · subst hij
      have hne : ((i : Int) != (i : Int)) = false := by simp
      have hcall := swapRangeEv L enc fv blk off cap (m - i) m i d0 dk w0 wr R (by rw [HD.out]; exact hs) S1.out (by omega) (by omega) (by omega)
      rw [HD.out] at hcall
      have HC := Lib.hid hcall
      clear hcall
      go_wp2_with fail
      rw [Q1.out]
      refine HC.out.mono ?_
      rintro e w1 ⟨rfl, S3⟩
      have S4 : Aside _ := S3
      clear S3
      go_wp2
      go_end0
      refine ⟨rfl, ?_⟩
      rw [← HE.out, ← rot_eq dk m i (by omega) (by omega)]
      exact S4.out
    · have hne : ((i : Int) != (j : Int)) = true := by simp; omega
      by_cases hgt : j < i
      · have hgtz : (j : Int) < (i : Int) := by omega
        have hcall := swapRangeEv L enc fv blk off cap (m - i) m j d0 dk w0 wr R (by rw [HD.out]; exact hs) S1.out (by omega) (by omega) (by omega)
        rw [HD.out] at hcall
        have HC := Lib.hid hcall
        clear hcall
        go_wp2_with fail
        rw [Q1.out]
        refine HC.out.mono ?_
        rintro e w1 ⟨rfl, S3⟩
        have S4 : Aside _ := S3
        clear S3
        go_wp2
        go_roundg (i - j + j)
        case measure => omega
        case rel => exact ⟨i - j, j, _, by congr 1; omega, rfl, by omega, by omega, by omega, by omega, by omega, by rw [size_swpN]; exact HD.out, S4, by show _ = _; rw [← HE.out]; exact rot_gt dk m i j (by omega) (by omega) hgt⟩
      · have hgtz : ¬ (j : Int) < (i : Int) := by omega
        have hcall := swapRangeEv L enc fv blk off cap (m - i) (m + j - i) i d0 dk w0 wr R (by rw [HD.out]; exact hs) S1.out (by omega) (by omega) (by omega)
        rw [HD.out] at hcall
        have HC := Lib.hid hcall
        clear hcall
        go_wp2_with fail
        rw [Q1.out, Q2.out]
        refine HC.out.mono ?_
        rintro e w1 ⟨rfl, S3⟩
        have S4 : Aside _ := S3
        clear S3
        go_wp2
        go_roundg (i + (j - i))
        case measure => omega
        case rel => exact ⟨i, j - i, _, rfl, by congr 1; omega, by omega, by omega, by omega, by omega, by omega, by rw [size_swpN]; exact HD.out, S4, by show _ = _; rw [← HE.out]; exact rot_lt dk m i j (by omega) (by omega) (by omega)⟩


set_option maxHeartbeats 4000000 in
set_option maxRecDepth 1000000 in
theorem swapRangeLa {P : Program} {k : Nat} (L : StLa P k) {α : Type} [Inhabited α] (enc : α → List Value) (fv : Value) (blk off cap a b n : Nat) (d0 d : Array α) (w0 w : World)
    (R : RowK enc k w0 blk off d0) (hs : d0.size = d.size) (S : SWK enc k w0 blk off d w) (ha : a + n ≤ d.size) (hb : b + n ≤ d.size) (hsz : d.size < 4611686018427387904) :
    Calls P 101 #[.slice (some ⟨blk, off, none⟩) d.size cap, .int .i64 a, .int .i64 b, .int .i64 n, fv] w fun e w' =>
      e = .returned (.tuple #[]) ∧ SWK enc k w0 blk off (swpN d a b n) w' := by
  have mixed := L.mixed; have aE := L.aE; have zE := L.zE; have t0 := L.t0; have a0 := L.a0; have z0 := L.z0; have v0 := L.v0; have t3 := L.t3; have a3 := L.a3; have z3 := L.z3; have v3 := L.v3; have t4 := L.t4; have a4 := L.a4; have z4 := L.z4; have v4 := L.v4; have t22 := L.t22; have a22 := L.a22; have z22 := L.z22; have v22 := L.v22; have t25 := L.t25; have a25 := L.a25; have z25 := L.z25; have v25 := L.v25; have u22 := run_underlying L.t22
  have FG := L.fSwap
  have S0 : Aside _ := S
  clear S
  go_enter FG, Try.ntmps101
  go_wp2
  go_loopg [10] n (fun gk s10 wr => ∃ (i : Nat), s10 = .int .i64 i ∧ i ≤ n ∧ n - i ≤ gk ∧ Aside (SWK enc k w0 blk off (swpN d a b i) wr))
  case atStart => exact ⟨0, rfl, Nat.zero_le _, Nat.le_refl _, S0⟩
  case round =>
    clear S0
    obtain ⟨i, rfl, hin, hg, S1⟩ := hrel
    by_cases hlt : i < n
    · have hltz : (i : Int) < (n : Int) := by omega
      have hds := size_swpN d a b i
      have HD : Hid _ := hds
      have hdi : (swpN d a b i).size ≤ d.size := by omega
      have hdi2 : d.size ≤ (swpN d a b i).size := by omega
      clear hds
      have ea : ((a : Int) + (i : Int)).toNat = a + i := by omega
      have pa : (0 : Int) ≤ (a : Int) + (i : Int) := by omega
      have ba : (a : Int) + (i : Int) < (d.size : Int) := by omega
      have ra : IntKind.i64.wrap ((a : Int) + (i : Int)) = (a : Int) + (i : Int) := by rw [IntKind.wrap_i64]; omega
      have eb : ((b : Int) + (i : Int)).toNat = b + i := by omega
      have pb : (0 : Int) ≤ (b : Int) + (i : Int) := by omega
      have bb : (b : Int) + (i : Int) < (d.size : Int) := by omega
      have rb : IntKind.i64.wrap ((b : Int) + (i : Int)) = (b : Int) + (i : Int) := by rw [IntKind.wrap_i64]; omega
      obtain ⟨dj, hdj⟩ : ∃ x, x = swpN d a b i := ⟨_, rfl⟩
      rw [← hdj] at S1 hdi hdi2 HD
      have HDJ : Hid _ := hdj
      clear hdj
      have S2 : Aside (SWK enc k w0 blk off (swp dj (a + i) (b + i)) ((wr.drew.setCells blk (off + (a + i) * k) (enc dj[b + i]!)).setCells blk (off + (b + i) * k) (enc dj[a + i]!))) := S1.out.swapped R (a + i) (b + i) (by omega) (by omega)
      have la := S1.out.ld1 R (by omega) P (a + i) (by omega)
      have lb := S1.out.ld1 R (by omega) P (b + i) (by omega)
      have sa := S1.out.st1 R (by omega) P (a + i) (by omega) dj[b + i]!
      have sb := S1.out.st2 R (by omega) P (a + i) (b + i) (by omega) (by omega) dj[b + i]! dj[a + i]!
      have na : (enc dj[a + i]!).length = k := R.hk _
      have nb : (enc dj[b + i]!).length = k := R.hk _
      generalize enc dj[a + i]! = cI at S2 la sb na
      generalize enc dj[b + i]! = cJ at S2 lb sa sb nb
      clear S1
      go_wp2_with fail
      go_big_region_o
      clear la lb sa sb
      generalize (wr.drew.setCells blk (off + (a + i) * k) cJ).setCells blk (off + (b + i) * k) cI = w2 at S2 ⊢
      go_wp2
      go_roundg (n - (i + 1))
      case measure => omega
      case rel => exact ⟨i + 1, by go_num, by omega, by omega, by rw [swpN, ← HDJ.out]; exact S2⟩
    · have hltz : ¬ (i : Int) < (n : Int) := by omega
      go_wp2
      go_end0
      obtain rfl : i = n := by omega
      exact ⟨rfl, S1.out⟩

set_option maxHeartbeats 4000000 in
set_option maxRecDepth 1000000 in
theorem rotateLa {P : Program} {k : Nat} (L : StLa P k) {α : Type} [Inhabited α] (enc : α → List Value) (fv : Value) (blk off cap a m b : Nat) (d0 d : Array α) (w0 w : World)
    (R : RowK enc k w0 blk off d0) (hs : d0.size = d.size) (S : SWK enc k w0 blk off d w) (ha : a < m) (hm : m < b) (hb : b ≤ d.size) (hsz : d.size < 4611686018427387904) :
    Calls P 97 #[.slice (some ⟨blk, off, none⟩) d.size cap, .int .i64 a, .int .i64 m, .int .i64 b, fv] w fun e w' =>
      e = .returned (.tuple #[]) ∧ SWK enc k w0 blk off (rotA d a m b) w' := by
  have mixed := L.mixed; have aE := L.aE; have zE := L.zE; have t0 := L.t0; have a0 := L.a0; have z0 := L.z0; have v0 := L.v0; have t3 := L.t3; have a3 := L.a3; have z3 := L.z3; have v3 := L.v3; have t4 := L.t4; have a4 := L.a4; have z4 := L.z4; have v4 := L.v4; have t22 := L.t22; have a22 := L.a22; have z22 := L.z22; have v22 := L.v22; have t25 := L.t25; have a25 := L.a25; have z25 := L.z25; have v25 := L.v25; have u22 := run_underlying L.t22
  have FG := L.fRot
  have eS : ∀ args w, (callFunc 101 args).run P w = .ok (.enter 101 args) w := enters_of L.fSwap (by kernel_rfl) rfl
  have S0 : Aside _ := S
  clear S
  have c1 : (m : Int) - (a : Int) = ((m - a : Nat) : Int) := by omega
  have c2 : (b : Int) - (m : Int) = ((b - m : Nat) : Int) := by omega
  go_enter FG, Try.ntmps97
  go_wp2
  go_loopg [10, 11] (b - a) (fun gk s10 s11 wr => ∃ (i j : Nat) (dk : Array α), s10 = .int .i64 i ∧ s11 = .int .i64 j ∧ 0 < i ∧ 0 < j ∧ i ≤ m - a ∧ j ≤ b - m ∧ i + j ≤ gk ∧ dk.size = d.size ∧ Aside (SWK enc k w0 blk off dk wr) ∧ Hid (rotA dk (m - i) m (m + j) = rotA d a m b))
  case atStart => exact ⟨m - a, b - m, d, by first | rfl | rw [c1], by first | rfl | rw [c2], by omega, by omega, Nat.le_refl _, Nat.le_refl _, by omega, rfl, S0, by show _ = _; congr 1 <;> omega⟩
  case round =>
    clear S0 c1 c2
    obtain ⟨i, j, dk, rfl, rfl, hi0, hj0, him, hjm, hg, hds, S1, HE⟩ := hrel
    have HD : Hid _ := hds
    have hd1 : dk.size ≤ d.size := by omega
    have hd2 : d.size ≤ dk.size := by omega
    have q1 : (m : Int) - (i : Int) = ((m - i : Nat) : Int) := by omega
    have r1 : IntKind.i64.wrap ((m : Int) - (i : Int)) = ((m - i : Nat) : Int) := by rw [IntKind.wrap_i64]; omega
    have q2 : (m : Int) + (j : Int) - (i : Int) = ((m + j - i : Nat) : Int) := by omega
    have Q1 := Lib.hid q1
    have Q2 := Lib.hid q2
    clear q1 q2 hds r1
    by_cases hij : i = j
    · subst hij
      have hne : ((i : Int) != (i : Int)) = false := by simp
      have hcall := swapRangeLa L enc fv blk off cap (m - i) m i d0 dk w0 wr R (by rw [HD.out]; exact hs) S1.out (by omega) (by omega) (by omega)
      rw [HD.out] at hcall
      have HC := Lib.hid hcall
      clear hcall
      go_wp2_with fail
      rw [Q1.out]
      refine HC.out.mono ?_
      rintro e w1 ⟨rfl, S3⟩
      have S4 : Aside _ := S3
      clear S3
      go_wp2
      go_end0
      refine ⟨rfl, ?_⟩
      rw [← HE.out, ← rot_eq dk m i (by omega) (by omega)]
      exact S4.out
    · have hne : ((i : Int) != (j : Int)) = true := by simp; omega
      by_cases hgt : j < i
      · have hgtz : (j : Int) < (i : Int) := by omega
        have hcall := swapRangeLa L enc fv blk off cap (m - i) m j d0 dk w0 wr R (by rw [HD.out]; exact hs) S1.out (by omega) (by omega) (by omega)
        rw [HD.out] at hcall
        have HC := Lib.hid hcall
        clear hcall
        go_wp2_with fail
        rw [Q1.out]
        refine HC.out.mono ?_
        rintro e w1 ⟨rfl, S3⟩
        have S4 : Aside _ := S3
        clear S3
        go_wp2
        go_roundg (i - j + j)
        case measure => omega
        case rel => exact ⟨i - j, j, _, by congr 1; omega, rfl, by omega, by omega, by omega, by omega, by omega, by rw [size_swpN]; exact HD.out, S4, by show _ = _; rw [← HE.out]; exact rot_gt dk m i j (by omega) (by omega) hgt⟩
      · have hgtz : ¬ (j : Int) < (i : Int) := by omega
        have hcall := swapRangeLa L enc fv blk off cap (m - i) (m + j - i) i d0 dk w0 wr R (by rw [HD.out]; exact hs) S1.out (by omega) (by omega) (by omega)
        rw [HD.out] at hcall
        have HC := Lib.hid hcall
        clear hcall
        go_wp2_with fail
        rw [Q1.out, Q2.out]
        refine HC.out.mono ?_
        rintro e w1 ⟨rfl, S3⟩
        have S4 : Aside _ := S3
        clear S3
        go_wp2
        go_roundg (i + (j - i))
        case measure => omega
        case rel => exact ⟨i, j - i, _, rfl, by congr 1; omega, by omega, by omega, by omega, by omega, by omega, by rw [size_swpN]; exact HD.out, S4, by show _ = _; rw [← HE.out]; exact rot_lt dk m i j (by omega) (by omega) (by omega)⟩


end Go.Proofs.Ytjgbflclhkeibaa
