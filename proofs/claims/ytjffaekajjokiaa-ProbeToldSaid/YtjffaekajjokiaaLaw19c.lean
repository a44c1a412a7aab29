/-
  The law ProbeSome walked: it returns true, and turns nothing that was there.
-/
import Derived.Test.YtjffaekajjokiaaOps
import Derived.Test.YtjffaekajjokiaaSet
import Derived.Deep.RegionWith
namespace Go.Proofs.Ytjffaekajjokiaa
open Go.Shelf Go.RowKit Go.Lib Go.Sort
set_option linter.unusedVariables false
theorem addS_take (L : List Int) (i : Nat) (hi : i < L.length) (hn : L.Nodup) : L[i]'hi ∉ L.take i ∧ addS (L.take i) (L[i]'hi) = L.take (i + 1) := by
  have h1 : L[i]'hi ∉ L.take i := by
    intro hx
    obtain ⟨j, hj, he⟩ := List.mem_iff_getElem.1 hx
    rw [List.getElem_take] at he
    have hij : j < i := by simp at hj; omega
    exact List.pairwise_iff_getElem.1 hn j i (by omega) hi hij he
  exact ⟨h1, by unfold addS; rw [if_neg h1, List.take_succ_eq_append_getElem hi]⟩
theorem shuf_nodup (s : Int) (nodes : List Int) (h : nodes.length ≤ 900000) : (shufL s (onceL nodes)).2.Nodup ∧ (∀ x, x ∈ (shufL s (onceL nodes)).2 ↔ x ∈ nodes) ∧ (shufL s (onceL nodes)).2.length ≤ nodes.length := by
  have hp := shufL_perm s (onceL nodes) (by have := onceL_len nodes; omega)
  refine ⟨hp.nodup_iff.2 (onceL_nodup nodes), fun x => (hp.mem_iff).trans ((onceL_is nodes).2 x), ?_⟩
  rw [shufL_len]
  exact onceL_len nodes
theorem rem_20 (n : Int) (h0 : 0 ≤ n) (h1 : n ≤ 255) : ∃ m : Nat, n.tmod 20 = (m : Int) ∧ m < 20 := by
  rw [Int.tmod_eq_emod_of_nonneg h0]
  exact ⟨(n % 20).toNat, by omega, by omega⟩
theorem ints_any' (oa ob : Option Addr) (n ca cb : Nat) (l : List Int) (w : World) (hn : l.length = n) (ha : SlAt icells w (.slice oa n ca) l) (hb : SlAt icells w (.slice ob n cb) l) (hl : n ≤ 1000000) :
    Calls Try.prog 13 #[.slice oa n ca, .slice ob n cb] w fun e w' => e = .returned (.bool true) ∧ ∃ q, w' = w.drewN q := by
  subst hn
  exact ints_any oa ob ca cb l w ha hb hl
set_option maxRecDepth 100000 in
set_option maxHeartbeats 8000000 in
theorem lawSome (seed : Int) (oa : Option Addr) (cap : Nat) (nodes : List Int) (n : Int) (w : World) (h : SlAt icells w (.slice oa nodes.length cap) nodes) (hf : ∀ x ∈ nodes, Fits x) (h0 : 0 ≤ n) (h1 : n ≤ 255) :
    Calls Try.prog 5 #[.int .u64 seed, .slice oa nodes.length cap, .int .u8 n] w fun e w' => e = .returned (.bool true) ∧ RowKit.Below w.heap.size w w' := by
  have HE := Lib.hid h
  have HF := Lib.hid hf
  have AL := Lib.hid alive_any
  obtain ⟨m, hm, hm20⟩ := rem_20 n h0 h1
  have hwn : IntKind.i64.wrap n = n := by rw [IntKind.wrap_i64]; omega
  have hwm : IntKind.i64.wrap (n.tmod 20) = (m : Int) := by rw [hm, IntKind.wrap_i64]; omega
  clear h hf
  go_enter Try.func5, Try.ntmps5
  go_wp2_with fail
  refine (AL.out _).mono ?_
  rintro e w1 ⟨rfl, hb1⟩
  have HB1 := Lib.hid hb1
  clear hb1
  by_cases h100 : (100 : Int) < (nodes.length : Int)
  · go_wp2_with fail
    go_ret
    exact ⟨rfl, HB1.out⟩
  have hnl : nodes.length ≤ 100 := by omega
  have hn := new_any seed w1
  have HN := Lib.hid hn
  clear hn
  go_wp2_with fail
  refine HN.out.mono ?_
  rintro e w2 ⟨rfl, hw2⟩
  have ho2 : Obj 45 w1.heap.size (w1.heap.size + 1) w2 seed [] := by rw [hw2]; exact obj_at (obj_new w1 seed) (Nat.lt_succ_self _)
  have hb2 : Below w1.heap.size w1 w2 := by rw [hw2]; exact (Below.refl _ _).alloc (Nat.le_refl _) _
  have HB2 := Lib.hid (HB1.out.trans (hb2.mono HB1.out.size))
  have hs2 := some_any w1.heap.size (w1.heap.size + 1) seed [] oa cap nodes 1000 w2 ho2 (HE.out.below icells_len (by decide) HB2.out (Nat.le_refl _)) (by omega)
  have HS2 := Lib.hid hs2
  have hz2 : w.heap.size ≤ w1.heap.size := HB1.out.size
  clear hw2 ho2 hb2 hs2 HN
  go_wp2_with fail
  refine HS2.out.mono ?_
  rintro e w3 ⟨v3, rfl, ho3, _, hg3⟩
  obtain ⟨hnd, hmem, hlen⟩ := shuf_nodup seed nodes (by omega)
  have hsl : someL seed nodes 1000 = (shufL seed (onceL nodes)).2 := by unfold someL; rw [List.take_of_length_le (by show _ ≤ 1000; omega)]
  have hsm : ∀ k : Nat, someL seed nodes (k : Int) = (shufL seed (onceL nodes)).2.take k := fun k => by unfold someL; rw [Int.toNat_natCast]
  rw [hsl] at ho3
  generalize (shufL seed (onceL nodes)).2 = L at *
  obtain ⟨o3, c3, rfl⟩ := slAt_slice ho3.at
  have HO3 := Lib.hid (show Ints w.heap.size w3 (.slice o3 L.length c3) L from ho3.lower (HB2.out.size))
  have HB3 := Lib.hid (below_of_grown HB2.out hg3 hz2 HB2.out.size)
  have HND := Lib.hid hnd
  have HMEM := Lib.hid hmem
  have HSM := Lib.hid hsm
  have hmm := @run_makeMap Try.prog
  clear ho3 hg3 hnd hmem hsm hsl HS2 HB1 HB2
  go_wp2_with fail
  have HM4 := Lib.hid (IsSet.made w3)
  have HO4 := Lib.hid (HO3.out.below ((Below.refl _ _).alloc (Nat.le_refl _) (.map #[] 0)) (Nat.le_refl _))
  have HB4 := Lib.hid (HB3.out.alloc HB3.out.size (.map #[] 0))
  have hbm : w.heap.size ≤ w3.heap.size := HB3.out.size
  have HNB := Lib.hid (show ∀ g, (Value.slice o3 L.length c3).ownBlock = some g → g < w3.heap.size from fun g hg => (HO3.out.lt g hg).2)
  clear HO3 HB3 hmm
  generalize w3.alloc (.map #[] 0) = w4 at *
  generalize w3.heap.size = bm at *
  have HFL := Lib.hid (show ∀ x ∈ L, Fits x from fun x hx => HF.out x ((HMEM.out x).1 hx))
  go_loopg [26] L.length (fun gk s26 wr => ∃ (i : Nat), s26 = .int .i64 i ∧ i ≤ L.length ∧ L.length - i ≤ gk ∧ Hid (IsSet wr bm i (L.take i)) ∧ Hid (Ints w.heap.size wr (.slice o3 L.length c3) L) ∧ Hid (Below w.heap.size w wr))
  case atStart => exact ⟨0, rfl, Nat.zero_le _, Nat.le_refl _, HM4, HO4, HB4⟩
  case round =>
    clear HM4 HO4 HB4
    obtain ⟨i, rfl, hi, hg, HM, HO, HB⟩ := hrel
    by_cases hlt : i < L.length
    · have hltz : (i : Int) < (L.length : Int) := by omega
      have hsl := HO.out.at
      obtain ⟨b, off, rfl⟩ := hsl.plain icells_len (by decide) (by intro e; rw [e] at hlt; exact absurd hlt (by simp))
      obtain ⟨x, hx⟩ : ∃ x, x = L[i]'hlt := ⟨_, rfl⟩
      have d0 : wr.cell? ⟨b, off + i, none⟩ = some (.int .i64 x) := by
        have := hsl.cell icells_len (i := i) (c := 0) hlt (by decide)
        simpa [icells, hx] using this
      have hxf : Fits x := by rw [hx]; exact HFL.out _ (List.getElem_mem hlt)
      obtain ⟨hni, hadd⟩ := addS_take L i hlt HND.out
      rw [← hx] at hni hadd
      have hlk := HM.out.look x hxf
      rw [decide_eq_false hni] at hlk
      obtain ⟨w5, hst, hm5, hg5⟩ := HM.out.store x hxf (by omega)
      rw [hadd] at hm5
      have HM5 := Lib.hid hm5
      have HO5 := Lib.hid (HO.out.kept hg5 (.inr fun e => by have := HNB.out _ e; omega))
      have HB5 := Lib.hid (below_of_grown HB.out hg5 hbm HB.out.size)
      clear hsl hx hxf hni hadd hm5 hg5
      go_wp2_with fail
      go_roundg (L.length - (i + 1))
      case measure => omega
      case rel => exact ⟨i + 1, by go_num, by omega, Nat.le_refl _, HM5, HO5, HB5⟩
    · have hltz : ¬ (i : Int) < (L.length : Int) := by omega
      obtain rfl : i = L.length := by omega
      have hms := HM.out
      rw [List.take_length] at hms
      have HMS := Lib.hid hms
      have HE4 := Lib.hid (HE.out.below icells_len (by decide) HB.out (Nat.le_refl _))
      clear hms HM
      go_wp2_with fail
      generalize hw4 : wr = w4 at *
      go_loopg [38] nodes.length (fun gk s38 wr => ∃ (i : Nat), s38 = .int .i64 i ∧ i ≤ nodes.length ∧ nodes.length - i ≤ gk ∧ w4 = wr)
      case atStart => exact ⟨0, rfl, Nat.zero_le _, Nat.le_refl _, rfl⟩
      case round =>
        obtain ⟨i, rfl, hi, hg, rfl⟩ := hrel
        by_cases hlt : i < nodes.length
        · have hltz : (i : Int) < (nodes.length : Int) := by omega
          have hsl := HE4.out
          obtain ⟨b, off, rfl⟩ := hsl.plain icells_len (by decide) (by intro e; rw [e] at hlt; exact absurd hlt (by simp))
          obtain ⟨x, hx⟩ : ∃ x, x = nodes[i]'hlt := ⟨_, rfl⟩
          have d0 : w4.cell? ⟨b, off + i, none⟩ = some (.int .i64 x) := by
            have := hsl.cell icells_len (i := i) (c := 0) hlt (by decide)
            simpa [icells, hx] using this
          have hxm : x ∈ nodes := by rw [hx]; exact List.getElem_mem hlt
          have hlk := HMS.out.look x (HF.out x hxm)
          rw [decide_eq_true ((HMEM.out x).2 hxm)] at hlk
          clear hsl hx hxm
          go_wp2_with fail
          go_roundg (nodes.length - (i + 1))
          case measure => omega
          case rel => exact ⟨i + 1, by go_num, by omega, Nat.le_refl _, rfl⟩
        · have hltz : ¬ (i : Int) < (nodes.length : Int) := by omega
          have hcl : L.length ≤ c3 := by
            obtain ⟨oq, cq, hv6, hcap6⟩ := HO.out.at.slice_of
            simp only [Value.slice.injEq] at hv6
            omega
          obtain ⟨mk, hmk⟩ : ∃ mk : Nat, mk = min m L.length := ⟨_, rfl⟩
          have hmk1 : mk ≤ L.length := by omega
          have hmk2 : mk ≤ c3 := by omega
          have hmin : min (m : Int) (L.length : Int) = (mk : Int) := by omega
          have hsm := HSM.out m
          have htk : L.take m = L.take mk := by rw [hmk, List.take_eq_take_min]
          rw [htk] at hsm
          have hlk : (L.take mk).length = mk := by rw [List.length_take]; omega
          have HSK := Lib.hid hsm
          have HLK := Lib.hid hlk
          have HMK := Lib.hid hmk
          have HOT := Lib.hid (HO.out.take icells_len mk hmk1)
          clear hsm htk hlk hmk
          go_wp2_with fail
          have HO5 := Lib.hid (show ∀ W5, W5 = w4.drew.alloc (.cells #[.int .u64 seed, .slice none 0 0] 45) → Obj 45 w4.heap.size (w4.heap.size + 1) W5 seed [] from fun W5 e => by rw [e]; exact obj_at (obj_new w4.drew seed) (Nat.lt_succ_self _))
          have HB5 := Lib.hid (show ∀ W5, W5 = w4.drew.alloc (.cells #[.int .u64 seed, .slice none 0 0] 45) → Below w4.heap.size w4 W5 from fun W5 e => by rw [e]; exact (below_drew (Below.refl _ _)).alloc (Nat.le_refl _) _)
          go_region_with (first
            | (go_at_call 8; refine (new_any seed w4.drew).mono ?_; rintro e w5 ⟨rfl, hw5⟩; have H5 := Lib.hid (HO5.out _ hw5); have B5 := Lib.hid (HB5.out _ hw5); clear hw5)
            | (go_at_call 11; refine (some_any w4.heap.size (w4.heap.size + 1) seed [] oa cap nodes m w5 H5.out (HE4.out.below icells_len (by decide) B5.out (Nat.le_refl _)) (by omega)).mono ?_; rintro e w6 ⟨v6, rfl, ho6, _, hg6⟩; rw [HSK.out] at ho6; obtain ⟨o6, c6, rfl⟩ := slAt_slice ho6.at; rw [HLK.out] at ho6 ⊢; have HO6 := Lib.hid ho6.at; have B6 := Lib.hid (below_of_grown B5.out hg6 (Nat.le_refl _) B5.out.size); clear ho6 hg6)
            | (go_at_call 13; refine (ints_any' o6 o3 mk c6 c3 (L.take mk) w6 HLK.out HO6.out (HOT.out.at.below icells_len (by decide) B6.out (Nat.le_refl _)) (by omega)).mono ?_; rintro e w7 ⟨rfl, q7, hw7⟩; have B7 := Lib.hid (show Below w4.heap.size w4 w7 by rw [hw7]; exact B6.out.trans ((below_drewN w6 q7).mono B6.out.size)); clear hw7))
          all_goals
            go_wp2_with fail
            go_ret
            exact ⟨rfl, HB.out.trans (B7.out.mono HB.out.size)⟩
end Go.Proofs.Ytjffaekajjokiaa
