/-
  The law ProbePlays walked: it returns true, and turns nothing that was there.
-/
import Derived.Test.YtjffaekajjokiaaOps
import Derived.Test.YtjffaekajjokiaaRefNext
import Derived.Deep.RegionHeld
namespace Go.Proofs.Ytjffaekajjokiaa
open Go.Shelf Go.RowKit Go.Lib Go.Sort
set_option linter.unusedVariables false
theorem nextL_len (s : Int) (ws nodes : List Int) (n : Nat) (h1 : ws.length ≤ n) (h2 : nodes.length ≤ n) : (nextL s ws nodes).2.tail.length ≤ n := by
  have h : (nextL s ws nodes).2.length ≤ n := by
    unfold nextL
    split
    · rw [shufL_len]; have := onceL_len nodes; omega
    · exact Nat.le_trans (List.length_filter_le _ _) h1
  rw [List.length_tail]
  omega
theorem owns_none_made {e : Nat} (W : World) (n : Nat) (hn : W.heap.size = n) : Owns icells 1 n e (W.alloc (.cells #[] e)) (.slice (some ⟨n, 0, none⟩) 0 0) [] := by
  subst hn
  exact World.ownsRow_made W #[] 0 (Nat.le_refl _) (by decide) rfl
/-- what holds on the way through a step -/
structure St (w : World) (b1 n8 : Nat) (x0 x1 x2 v9 : Value) (nodes : List Int) (s1 s2 : Int) (ws1 ws2 : List Int) (W : World) : Prop where
  o1 : Obj 45 b1 (b1 + 2) W s1 ws1
  o2 : Obj 41 (b1 + 1) (b1 + 2) W s2 ws2
  inn : SlAt icells W v9 nodes
  arg : SlAt icells W x0 nodes
  blk : W.heap[n8]? = some (.cells #[x0, x1, x2] 34)
  below : Below w.heap.size w W
  size : b1 + 2 ≤ W.heap.size
  v9b : ∀ g, v9.ownBlock = some g → b1 + 2 ≤ g
  x0b : nodes = [] ∨ ∀ g, x0.ownBlock = some g → g < b1
  n8b : b1 + 2 ≤ n8
  wb : w.heap.size ≤ b1
section
variable {w W W' : World} {b1 n8 : Nat} {x0 x1 x2 v9 : Value} {nodes : List Int} {s1 s2 s3 : Int} {ws1 ws2 ws3 : List Int}
theorem St.cell0 (h : St w b1 n8 x0 x1 x2 v9 nodes s1 s2 ws1 ws2 W) : W.cell? ⟨n8, 0, none⟩ = some x0 := by rw [cell_of_row _ n8 0 _ _ _ h.blk]; rfl
theorem St.cell1 (h : St w b1 n8 x0 x1 x2 v9 nodes s1 s2 ws1 ws2 W) : W.cell? ⟨n8, 1, none⟩ = some x1 := by rw [cell_of_row _ n8 1 _ _ _ h.blk]; rfl
theorem St.cell2 (h : St w b1 n8 x0 x1 x2 v9 nodes s1 s2 ws1 ws2 W) : W.cell? ⟨n8, 2, none⟩ = some x2 := by rw [cell_of_row _ n8 2 _ _ _ h.blk]; rfl
theorem St.turn {r : Nat} {s1' s2' : Int} {ws1' ws2' : List Int} (h : St w b1 n8 x0 x1 x2 v9 nodes s1 s2 ws1 ws2 W) (hg : W.grownBy W' (some r)) (hr : r = b1 ∨ r = b1 + 1)
    (o1 : Obj 45 b1 (b1 + 2) W' s1' ws1') (o2 : Obj 41 (b1 + 1) (b1 + 2) W' s2' ws2') : St w b1 n8 x0 x1 x2 v9 nodes s1' s2' ws1' ws2' W' where
  o1 := o1
  o2 := o2
  inn := h.inn.grown icells_len (by decide) hg (.inr fun e => by have := h.v9b r e; omega)
  arg := h.arg.grown icells_len (by decide) hg (h.x0b.imp_right fun k e => by have := k r e; omega)
  blk := (hg.block n8 (Array.getElem?_eq_some_iff.1 h.blk).1 (fun e => by have := h.n8b; simp only [Option.some.injEq] at e; omega)).trans h.blk
  below := h.below.grown hg h.below.size fun k hk => by cases hk; have := h.wb; omega
  size := Nat.le_trans h.size hg.size
  v9b := h.v9b
  x0b := h.x0b
  n8b := h.n8b
  wb := h.wb
theorem St.one {s3 : Int} {ws3 : List Int} (h : St w b1 n8 x0 x1 x2 v9 nodes s1 s2 ws1 ws2 W) (hg : W.grownBy W' (some b1)) (o1 : Obj 45 b1 (b1 + 2) W' s3 ws3) : St w b1 n8 x0 x1 x2 v9 nodes s3 s2 ws3 ws2 W' :=
  h.turn hg (.inl rfl) o1 (h.o2.grown hg (by omega) (by omega))
theorem St.two {s3 : Int} {ws3 : List Int} (h : St w b1 n8 x0 x1 x2 v9 nodes s1 s2 ws1 ws2 W) (hg : W.grownBy W' (some (b1 + 1))) (o2 : Obj 41 (b1 + 1) (b1 + 2) W' s3 ws3) : St w b1 n8 x0 x1 x2 v9 nodes s1 s3 ws1 ws3 W' :=
  h.turn hg (.inr rfl) (h.o1.grown hg (by omega) (by omega)) o2
theorem St.later (h : St w b1 n8 x0 x1 x2 v9 nodes s1 s2 ws1 ws2 W) (hb : Below W.heap.size W W') : St w b1 n8 x0 x1 x2 v9 nodes s1 s2 ws1 ws2 W' where
  o1 := h.o1.below hb (Nat.le_refl _)
  o2 := h.o2.below hb (Nat.le_refl _)
  inn := h.inn.below icells_len (by decide) hb (Nat.le_refl _)
  arg := h.arg.below icells_len (by decide) hb (Nat.le_refl _)
  blk := (hb.block n8 (Array.getElem?_eq_some_iff.1 h.blk).1).trans h.blk
  below := h.below.trans (hb.mono h.below.size)
  size := Nat.le_trans h.size hb.size
  v9b := h.v9b
  x0b := h.x0b
  n8b := h.n8b
  wb := h.wb
end
set_option maxRecDepth 100000 in
set_option maxHeartbeats 8000000 in
theorem lawPlays (seed : Int) (oa : Option Addr) (cap : Nat) (ps : List PO) (w : World) (h : OpsAt w (.slice oa ps.length cap) ps) (hl : ps.length ≤ 1000000000000000) (hf : ∀ p ∈ ps, p.nodes.length ≤ 17592186044416) :
    Calls Try.prog 6 #[.int .u64 seed, .slice oa ps.length cap] w fun e w' => e = .returned (.bool true) ∧ RowKit.Below w.heap.size w w' := by
  have HE := Lib.hid h
  have AL := Lib.hid alive_any
  clear h
  go_enter Try.func6, Try.ntmps6
  go_wp2_with fail
  refine (AL.out _).mono ?_
  rintro e w1 ⟨rfl, hb1⟩
  have HE1 := Lib.hid (HE.out.below hb1 (Nat.le_refl _))
  have HB1 := Lib.hid hb1
  clear hb1
  have hg := great_any oa cap ps w1 HE1.out hl
  have HG := Lib.hid hg
  clear hg
  go_wp2_with fail
  refine HG.out.mono ?_
  rintro e w2 ⟨rfl, hb2⟩
  have HE2 := Lib.hid (HE1.out.below hb2 (Nat.le_refl _))
  have HB2 := Lib.hid (HB1.out.trans (hb2.mono HB1.out.size))
  clear hb2 HE1 HB1 HG
  cases hgr : greatB ps with
  | true =>
    go_wp2_with fail
    go_ret
    exact ⟨rfl, HB2.out⟩
  | false =>
    obtain ⟨hp1, hp2⟩ := great_not hgr hf
    have HP2 := Lib.hid hp2
    clear hp2 hgr hf
    have hn := new_any seed w2
    have HN := Lib.hid hn
    clear hn
    go_wp2_with fail
    refine HN.out.mono ?_
    rintro e w3 ⟨rfl, hw3⟩
    obtain ⟨b1, hb1⟩ : ∃ b, b = w2.heap.size := ⟨_, rfl⟩
    have hz3 : w3.heap.size = b1 + 1 := by rw [hw3, hb1]; simp
    rw [← hb1]
    have HO3 := Lib.hid (show Ord2 b1 w3 seed (.slice none 0 0) 45 by rw [hw3, hb1]; exact obj_new w2 seed)
    have HE3 := Lib.hid (show OpsAt w3 (.slice oa ps.length cap) ps by rw [hw3]; exact HE2.out.below ((Below.refl _ _).alloc (Nat.le_refl _) _) (Nat.le_refl _))
    have HB3 := Lib.hid (show Below w.heap.size w w3 by rw [hw3]; exact HB2.out.alloc HB2.out.size _)
    have hbw : w.heap.size ≤ b1 := by rw [hb1]; exact HB2.out.size
    clear hw3 HN HE2 HB2 hb1
    go_wp2_with fail
    have HOB := Lib.hid (show Obj 45 b1 (b1 + 2) (w3.alloc (.cells #[.int .u64 seed, .slice none 0 0] 41)) seed [] from (obj_at HO3.out (by omega)).below ((Below.refl _ _).alloc (Nat.le_refl _) _) (Nat.le_refl _))
    have HOR := Lib.hid (show Obj 41 (b1 + 1) (b1 + 2) (w3.alloc (.cells #[.int .u64 seed, .slice none 0 0] 41)) seed [] from obj_at (by rw [← hz3]; exact obj_new w3 seed) (by omega))
    have HB4 := Lib.hid (HB3.out.alloc HB3.out.size (.cells #[.int .u64 seed, .slice none 0 0] 41))
    have hz4 : b1 + 2 ≤ (w3.alloc (.cells #[.int .u64 seed, .slice none 0 0] 41)).heap.size := by simp; omega
    clear HO3 HE3 HB3
    generalize w3.alloc (.cells #[.int .u64 seed, .slice none 0 0] 41) = w4 at *
    go_loopg [25] ps.length (fun gk s25 wr => ∃ (i : Nat) (s : Int) (ws : List Int), s25 = .int .i64 i ∧ i ≤ ps.length ∧ ps.length - i ≤ gk ∧ ws.length ≤ 3000 ∧ Hid (Obj 45 b1 (b1 + 2) wr s ws) ∧ Hid (Obj 41 (b1 + 1) (b1 + 2) wr s ws) ∧ Hid (Below w.heap.size w wr) ∧ b1 + 2 ≤ wr.heap.size)
    case atStart => exact ⟨0, seed, [], rfl, Nat.zero_le _, Nat.le_refl _, by decide, HOB.out, HOR.out, HB4.out, hz4⟩
    case round =>
      clear HOB HOR HB4 hz4
      obtain ⟨i, s, ws, rfl, hi, hg, hws, HOB, HOR, HB, hz⟩ := hrel
      by_cases hlt : i < ps.length
      · have hltz : (i : Int) < (ps.length : Int) := by omega
        have hsl := HE.out.below HB.out (Nat.le_refl _)
        obtain ⟨b, off, rfl⟩ := hsl.1.plain ocells_len (by decide) (by intro e; rw [e] at hlt; exact absurd hlt (by simp))
        obtain ⟨oa1, c1, nodes, sm, k, hp, hn, d0, d1, d2⟩ := hsl.op i hlt
        have hnl : nodes.length ≤ 3000 := HP2.out _ (List.mem_of_getElem? hp)
        have hx0 : nodes = [] ∨ ∀ g, (Value.slice oa1 nodes.length c1).ownBlock = some g → g < b1 := by
          by_cases hne : nodes = []
          · exact .inl hne
          · right
            have h0 := (HE.out.2 _ (List.mem_of_getElem? hp)).lt icells_len (by decide) hne
            intro g hg
            have := h0 g hg
            omega
        have HN := Lib.hid hn
        clear hsl hp hn
        obtain ⟨n8, hn8⟩ : ∃ n, n = wr.heap.size := ⟨_, rfl⟩
        go_wp2_with (at_builtin; go_loud (refine wpList_app icells 1 icells_len (by decide) icells_one _ rfl _ _ 23 rfl (wr.heap.size + 1) 3 _ 8 Try.underlying23 infoInt rfl _ [] rfl ?h1 _ nodes rfl ?h2 ?h3 ?h4 ?h5 ?_))
        case h1 => exact owns_none_made _ _ (by simp)
        case h2 => exact (HN.out.below icells_len (by decide) ((Below.refl _ _).alloc (Nat.le_refl _) _) (Nat.le_refl _)).below icells_len (by decide) ((Below.refl _ _).alloc (Nat.le_refl _) _) (Nat.le_refl _)
        case h3 => simp only [List.length_nil]; omega
        case h4 => simp only [List.length_nil]; omega
        case h5 => simp
        intro v9 w5 h9 hg9 hv9
        obtain ⟨o9, c9, rfl⟩ := slAt_slice h9.at
        have hb5 : Below wr.heap.size wr w5 := (((Below.refl _ _).alloc (Nat.le_refl _) _).alloc (by simp) _).grown hg9 (by simp; omega) fun k hk => by simp [Value.ownBlock] at hk; omega
        have S0 : St w b1 n8 (.slice oa1 nodes.length c1) (.bool sm) (.int .i64 k) (.slice o9 nodes.length c9) nodes s s ws ws w5 := {
          o1 := HOB.out.below hb5 (Nat.le_refl _)
          o2 := HOR.out.below hb5 (Nat.le_refl _)
          inn := h9.at
          arg := HN.out.below icells_len (by decide) hb5 (Nat.le_refl _)
          blk := by
            have e2 := ((Below.refl (wr.heap.size + 1) (wr.alloc (.cells #[.slice oa1 nodes.length c1, .bool sm, .int .i64 k] 34))).alloc (by simp) (.cells #[] 3)).block wr.heap.size (Nat.lt_succ_self _)
            rw [hn8]
            exact ((hg9.block wr.heap.size (by simp; omega) (by simp [Value.ownBlock])).trans e2).trans (heap_alloc_new wr _)
          below := HB.out.trans (hb5.mono HB.out.size)
          size := Nat.le_trans hz hb5.size
          v9b := fun g hg => by have := (h9.lt g hg).1; omega
          x0b := hx0
          n8b := by omega
          wb := hbw }
        have S := Lib.hid S0
        rw [← hn8]
        clear h9 hg9 hv9 hb5 S0 HOB HOR HN HB hz hn8 d0 d1 d2
        have d1 := S.out.cell1
        cases sm with
        | true =>
          go_wp2_with fail
          have S1 := Lib.hid (S.out.later (below_drewN w5 1))
          have hsm := some_any b1 (b1 + 2) s ws o9 c9 nodes k (w5.drewN 1) S1.out.o1 S1.out.inn (by omega)
          have HSM := Lib.hid hsm
          have hsl : (someL s nodes k).length ≤ 3000 := by
            unfold someL
            rw [List.length_take, shufL_len]
            have := onceL_len nodes
            omega
          clear hsm d1
          go_region_held (fun w' => w'.cell? ⟨n8, 0, none⟩ = some (.slice oa1 nodes.length c1) ∧ w'.cell? ⟨n8, 2, none⟩ = some (.int .i64 k)) (first | exact ⟨S1.out.cell0, S1.out.cell2⟩ | exact ⟨S2.out.cell0, S2.out.cell2⟩ | exact ⟨S3.out.cell0, S3.out.cell2⟩ | exact ⟨S4.out.cell0, S4.out.cell2⟩)
            (first
              | (go_at_call 11; refine HSM.out.mono ?_; rintro e w6 ⟨v6, rfl, ho6, hr6, hg6⟩; have S2 := Lib.hid (S1.out.one hg6 hr6); obtain ⟨o6, c6, rfl⟩ := slAt_slice ho6.at; have HO6 := Lib.hid ho6; clear ho6 hr6 hg6)
              | (go_at_call 14; refine (refSome_any (b1 + 1) (b1 + 2) s ws oa1 c1 nodes k _ S2.out.o2 S2.out.arg (by omega)).mono ?_; rintro e w7 ⟨v7, rfl, ho7, hr7, hg7⟩; have S3 := Lib.hid (S2.out.two hg7 hr7); obtain ⟨o7, c7, rfl⟩ := slAt_slice ho7.at; have HO7 := Lib.hid ho7.at; have HO6' := Lib.hid (HO6.out.kept hg7 (.inr fun e => by have h1 := (HO6.out.lt _ e).1; have h2 := S1.out.size; omega)).at; clear ho7 hr7 hg7)
              | (go_at_call 13; refine (ints_any o6 o7 c6 c7 (someL s nodes k) _ HO6'.out HO7.out (by omega)).mono ?_; rintro e w8 ⟨rfl, q8, hw8⟩; have S4 := Lib.hid (show St w b1 n8 _ _ _ _ nodes _ _ ws ws w8 by rw [hw8]; exact S3.out.later (below_drewN _ q8)); clear hw8))
          have S5 := Lib.hid S4.out
          clear S S1 S2 S3 S4 HO6 HO6' HO7 HSM
          generalize w8 = w5 at *
          generalize (shufL s (onceL nodes)).1 = s5 at *
          obtain ⟨ws5, hwe⟩ : ∃ l, l = ws := ⟨_, rfl⟩
          have hws5 : ws5.length ≤ 3000 := by rw [hwe]; exact hws
          rw [← hwe] at S5
          clear hwe
          -- behind the answers: the numbers that come next, and what was told, are compared; S5 : St .. s5 s5 ws5 ws5 w5
          obtain ⟨q1, ho1, _⟩ := S5.out.o1
          obtain ⟨q2, ho2, _⟩ := S5.out.o2
          have cS := ho2.cell0
          have d8 := S5.out.cell0
          have HST := Lib.hid (fun q => stateOf_any b1 s5 q1 (w5.drewN q) (ho1.keep rfl))
          have HIN := Lib.hid (fun q => ints_any o9 oa1 c9 c1 nodes (w5.drewN q) (S5.out.inn.below icells_len (by decide) (below_drewN w5 q) (Nat.le_refl _)) (S5.out.arg.below icells_len (by decide) (below_drewN w5 q) (Nat.le_refl _)) (by omega))
          clear ho1 ho2
          go_wp2_with fail
          go_quiet (first | (go_at_call 16; refine Calls.quiet_of_same (HST.out _)) | (go_at_call 13; refine Calls.quiet_of (HIN.out _)))
          go_wp2_with fail
          go_roundg (ps.length - (i + 1))
          case measure => omega
          case rel => exact ⟨i + 1, s5, ws5, by go_num, by omega, Nat.le_refl _, hws5, S5.out.o1.below (below_drewN w5 _) (Nat.le_refl _), S5.out.o2.below (below_drewN w5 _) (Nat.le_refl _), S5.out.below.trans ((below_drewN w5 _).mono S5.out.below.size), S5.out.size⟩

        | false =>
          by_cases hne : nodes = []
          · have hl0 : nodes.length = 0 := by rw [hne]; rfl
            have hn1 : Calls Try.prog 9 #[.pointer (some ⟨b1, 0, none⟩), .slice o9 nodes.length c9] w5 fun e w' => e = .returned (.tuple #[.int .i64 0, .bool false]) ∧ Below w5.heap.size w5 w' := by rw [hl0]; exact nextNone_any b1 o9 c9 w5
            have HN1 := Lib.hid hn1
            have hn2 : ∀ W, Calls Try.prog 15 #[.pointer (some ⟨b1 + 1, 0, none⟩), .slice oa1 nodes.length c1] W fun e w' => e = .returned (.tuple #[.int .i64 0, .bool false]) ∧ W = w' := fun W => by rw [hl0]; exact refNextNone_any (b1 + 1) oa1 c1 W
            have HN2 := Lib.hid hn2
            clear hn1 hn2 hl0 hne
            go_wp2_with fail
            refine HN1.out.mono ?_
            rintro e w6 ⟨rfl, hb6⟩
            have S6 := Lib.hid (S.out.later hb6)
            have d0 := S6.out.cell0
            clear hb6 S HN1
            go_wp2_with fail
            refine (HN2.out _).mono ?_
            rintro e w7 ⟨rfl, rfl⟩
            clear d0 d1 HN2
            have S5 := S6
            clear S6
            generalize w6 = w5 at *
            obtain ⟨ws5, hwe⟩ : ∃ l, l = ws := ⟨_, rfl⟩
            obtain ⟨s5, hse⟩ : ∃ l, l = s := ⟨_, rfl⟩
            have hws5 : ws5.length ≤ 3000 := by rw [hwe]; exact hws
            rw [← hwe, ← hse] at S5
            clear hwe hse
            -- behind the answers: the numbers that come next, and what was told, are compared; S5 : St .. s5 s5 ws5 ws5 w5
            obtain ⟨q1, ho1, _⟩ := S5.out.o1
            obtain ⟨q2, ho2, _⟩ := S5.out.o2
            have cS := ho2.cell0
            have d8 := S5.out.cell0
            have HST := Lib.hid (fun q => stateOf_any b1 s5 q1 (w5.drewN q) (ho1.keep rfl))
            have HIN := Lib.hid (fun q => ints_any o9 oa1 c9 c1 nodes (w5.drewN q) (S5.out.inn.below icells_len (by decide) (below_drewN w5 q) (Nat.le_refl _)) (S5.out.arg.below icells_len (by decide) (below_drewN w5 q) (Nat.le_refl _)) (by omega))
            clear ho1 ho2
            go_wp2_with fail
            go_quiet (first | (go_at_call 16; refine Calls.quiet_of_same (HST.out _)) | (go_at_call 13; refine Calls.quiet_of (HIN.out _)))
            go_wp2_with fail
            go_roundg (ps.length - (i + 1))
            case measure => omega
            case rel => exact ⟨i + 1, s5, ws5, by go_num, by omega, Nat.le_refl _, hws5, S5.out.o1.below (below_drewN w5 _) (Nat.le_refl _), S5.out.o2.below (below_drewN w5 _) (Nat.le_refl _), S5.out.below.trans ((below_drewN w5 _).mono S5.out.below.size), S5.out.size⟩

          · have hn1 := next_any b1 (b1 + 2) s ws o9 c9 nodes w5 S.out.o1 S.out.size S.out.inn hne (fun g hg => by have := S.out.v9b g hg; omega) (by omega) (by omega)
            have HN1 := Lib.hid hn1
            have HNE := Lib.hid hne
            clear hn1 hne
            go_wp2_with fail
            refine HN1.out.mono ?_
            rintro e w6 ⟨x, rfl, hx, ho6, hg6⟩
            have S6 := Lib.hid (S.out.one hg6 ho6)
            have HX := Lib.hid hx
            have d0 := S6.out.cell0
            clear hx ho6 hg6 S HN1
            go_wp2_with fail
            have hn2 := refNext_any (b1 + 1) (b1 + 2) s ws oa1 c1 nodes w6 S6.out.o2 S6.out.size S6.out.arg HNE.out (by omega) (by omega)
            refine hn2.mono ?_
            clear hn2
            rintro e w7 ⟨y, rfl, hy, ho7, hg7⟩
            obtain rfl : y = x := Option.some.inj (hy.symm.trans HX.out)
            have S5 := Lib.hid (S6.out.two hg7 ho7)
            have hws5 := nextL_len s ws nodes 3000 hws hnl
            clear hy ho7 hg7 S6 HX d0 d1
            generalize w7 = w5 at *
            generalize (nextL s ws nodes).1 = s5 at *
            generalize (nextL s ws nodes).2.tail = ws5 at *
            -- behind the answers: the numbers that come next, and what was told, are compared; S5 : St .. s5 s5 ws5 ws5 w5
            obtain ⟨q1, ho1, _⟩ := S5.out.o1
            obtain ⟨q2, ho2, _⟩ := S5.out.o2
            have cS := ho2.cell0
            have d8 := S5.out.cell0
            have HST := Lib.hid (fun q => stateOf_any b1 s5 q1 (w5.drewN q) (ho1.keep rfl))
            have HIN := Lib.hid (fun q => ints_any o9 oa1 c9 c1 nodes (w5.drewN q) (S5.out.inn.below icells_len (by decide) (below_drewN w5 q) (Nat.le_refl _)) (S5.out.arg.below icells_len (by decide) (below_drewN w5 q) (Nat.le_refl _)) (by omega))
            clear ho1 ho2
            go_wp2_with fail
            go_quiet (first | (go_at_call 16; refine Calls.quiet_of_same (HST.out _)) | (go_at_call 13; refine Calls.quiet_of (HIN.out _)))
            go_wp2_with fail
            go_roundg (ps.length - (i + 1))
            case measure => omega
            case rel => exact ⟨i + 1, s5, ws5, by go_num, by omega, Nat.le_refl _, hws5, S5.out.o1.below (below_drewN w5 _) (Nat.le_refl _), S5.out.o2.below (below_drewN w5 _) (Nat.le_refl _), S5.out.below.trans ((below_drewN w5 _).mono S5.out.below.size), S5.out.size⟩

      · have hltz : ¬ (i : Int) < (ps.length : Int) := by omega
        go_wp2_with fail
        go_ret
        exact ⟨rfl, HB.out⟩
end Go.Proofs.Ytjffaekajjokiaa
