/-
  The law RankShares walked: it returns true, and turns nothing that was there.
-/
import Derived.Test.YtlohmmhdfabjiaaShares
import Derived.Test.YtlohmmhdfabjiaaLaw12b
import Derived.IntWalk
namespace Go.Proofs.Ytlohmmhdfabjiaa
open Go.Shelf Go.RowKit Go.Lib Go.Sort
set_option linter.unusedVariables false
theorem shareTo_mem (nodes : List Int) (salt : Int) (n : Nat) (x : Int) : x ∈ shareTo nodes salt n 8 ↔ ∃ k : Nat, x = (k : Int) ∧ k < 8 ∧ own (rk nodes k salt) = ((n : Int), 0) := by
  unfold shareTo
  rw [List.mem_filter, List.mem_map]
  simp only [List.mem_range, decide_eq_true_eq]
  constructor
  · rintro ⟨⟨k, hk, rfl⟩, h⟩
    exact ⟨k, rfl, hk, h⟩
  · rintro ⟨k, rfl, hk, h⟩
    exact ⟨⟨k, hk, rfl⟩, h⟩
theorem shareTo_rises (nodes : List Int) (salt : Int) (n : Nat) : Rises (shareTo nodes salt n 8) := by
  refine List.Pairwise.filter _ ?_
  have : ((List.range 8).map Int.ofNat) = [0, 1, 2, 3, 4, 5, 6, 7] := rfl
  rw [this]
  decide
/-- whether a workload was met, of the nodes ahead of one and of so many of its own -/
def met (nodes : List Int) (salt : Int) (i j : Nat) (k : Nat) : Bool := (decide ((own (rk nodes k salt)).2 = 0) && decide ((own (rk nodes k salt)).1 < (i : Int))) || decide ((k : Int) ∈ (shareTo nodes salt i 8).take j)
def metI (nodes : List Int) (salt : Int) (i j : Nat) (k : Nat) : Int := if met nodes salt i j k then 1 else 0
theorem met_start (nodes : List Int) (salt : Int) (k : Nat) : metI nodes salt 0 0 k = 0 := by
  unfold metI met
  have hr := own_range (rk_ranks nodes k salt) (x := (own (rk nodes k salt)).1) (e := (own (rk nodes k salt)).2) rfl
  rw [if_neg]
  simp only [List.take_zero, List.not_mem_nil, decide_false, Bool.or_false, Bool.and_eq_true, decide_eq_true_eq, not_and]
  intro h
  rcases hr with ⟨_, n, hn, _⟩ | h8
  · omega
  · omega
theorem met_next (nodes : List Int) (salt : Int) (i : Nat) (k : Nat) (hk : k < 8) : metI nodes salt i (shareTo nodes salt i 8).length k = metI nodes salt (i + 1) 0 k := by
  have hr := own_range (rk_ranks nodes k salt) (x := (own (rk nodes k salt)).1) (e := (own (rk nodes k salt)).2) rfl
  have hb : met nodes salt i (shareTo nodes salt i 8).length k = met nodes salt (i + 1) 0 k := by
    rw [Bool.eq_iff_iff]
    unfold met
    rw [List.take_length, List.take_zero]
    simp only [Bool.or_eq_true, Bool.and_eq_true, decide_eq_true_eq, List.not_mem_nil, or_false, shareTo_mem]
    constructor
    · rintro (⟨h1, h2⟩ | ⟨k', hkk, _, h⟩)
      · exact ⟨h1, by omega⟩
      · obtain rfl : k = k' := by omega
        rw [h]
        exact ⟨rfl, by simp only; omega⟩
    · rintro ⟨h1, h2⟩
      by_cases h3 : (own (rk nodes k salt)).1 < (i : Int)
      · exact .inl ⟨h1, h3⟩
      · exact .inr ⟨k, rfl, hk, Prod.ext (by simp only; omega) h1⟩
  unfold metI
  rw [hb]
theorem met_step (nodes : List Int) (salt : Int) (i j : Nat) (hj : j < (shareTo nodes salt i 8).length) (m : Nat) (hm : (shareTo nodes salt i 8)[j]'hj = (m : Int)) :
    metI nodes salt i j m = 0 ∧ ∀ k, k < 8 → metI nodes salt i (j + 1) k = if k = m then 1 else metI nodes salt i j k := by
  have hmem : (m : Int) ∈ shareTo nodes salt i 8 := by rw [← hm]; exact List.getElem_mem hj
  obtain ⟨k', hkk, _, ho⟩ := (shareTo_mem nodes salt i m).1 hmem
  obtain rfl : m = k' := by omega
  have hnt : (m : Int) ∉ (shareTo nodes salt i 8).take j := by
    intro hx
    obtain ⟨a, ha, he⟩ := List.mem_iff_getElem.1 hx
    rw [List.getElem_take] at he
    simp only [List.length_take] at ha
    have := List.pairwise_iff_getElem.1 (shareTo_rises nodes salt i) a j (by omega) hj (by omega)
    omega
  refine ⟨?_, fun k hk => ?_⟩
  · unfold metI met
    rw [ho, if_neg]
    simp only [decide_true, Bool.true_and, Bool.or_eq_true, decide_eq_true_eq, not_or]
    exact ⟨by omega, hnt⟩
  · unfold metI met
    rw [List.take_succ_eq_append_getElem hj, hm]
    by_cases hkm : k = m
    · subst hkm
      rw [if_pos rfl, if_pos]
      simp
    · rw [if_neg hkm]
      congr 1
      have : (k : Int) ≠ (m : Int) := by omega
      simp [this]
/-- behind all of them: each was met, if there is a node at all -/
theorem met_all (nodes : List Int) (salt : Int) (k : Nat) : metI nodes salt 8 0 k = if there nodes = [] then 0 else 1 := by
  have hr := rk_ranks nodes k salt
  unfold metI met
  simp only [List.take_zero, List.not_mem_nil, decide_false, Bool.or_false, Bool.and_eq_true, decide_eq_true_eq]
  by_cases ht : there nodes = []
  · have hp := hr.perm
    rw [ht] at hp
    have hn : rk nodes k salt = [] := List.perm_nil.1 hp
    rw [hn, if_pos ht, if_neg (by simp [own])]
  · rw [if_neg ht, if_pos]
    cases hx : rk nodes k salt with
    | nil =>
      have hp := hr.perm
      rw [hx] at hp
      exact absurd (List.nil_perm.1 hp) ht
    | cons y l =>
      have hy := (hr.mem y).1 (by rw [hx]; simp)
      simp only [own, true_and]
      omega
theorem index8 (va : Nat → Value) (i : Nat) (hi : i < 8) (W : World) : Sem.run Try.prog (Instr.index 39 (.agg #[va 0, va 1, va 2, va 3, va 4, va 5, va 6, va 7]) (.int .i64 (i : Int))) W = .ok (va i) W := by
  have : i = 0 ∨ i = 1 ∨ i = 2 ∨ i = 3 ∨ i = 4 ∨ i = 5 ∨ i = 6 ∨ i = 7 := by omega
  rcases this with rfl | rfl | rfl | rfl | rfl | rfl | rfl | rfl <;> first | rfl | kernel_rfl | simp [Instr.index, go_sem]
theorem index8i (c : Int) (i : Nat) (hi : i < 8) (W : World) : Sem.run Try.prog (Instr.index 35 (.agg #[.int .i64 c, .int .i64 c, .int .i64 c, .int .i64 c, .int .i64 c, .int .i64 c, .int .i64 c, .int .i64 c]) (.int .i64 (i : Int))) W = .ok (.int .i64 c) W := by
  have : i = 0 ∨ i = 1 ∨ i = 2 ∨ i = 3 ∨ i = 4 ∨ i = 5 ∨ i = 6 ∨ i = 7 := by omega
  rcases this with rfl | rfl | rfl | rfl | rfl | rfl | rfl | rfl <;> first | rfl | kernel_rfl | simp [Instr.index, go_sem]
theorem Places.congr {b : Nat} {W : World} {f g : Nat → Int} (h : Places b W f) (hg : ∀ n, n < 8 → g n = f n) : Places b W g := by
  obtain ⟨cs, hh, hs, hc⟩ := h.heap
  exact ⟨cs, hh, hs, fun n hn => by rw [hg n hn]; exact hc n hn⟩
theorem Places.lt {b : Nat} {W : World} {f : Nat → Int} (h : Places b W f) : b < W.heap.size := by
  obtain ⟨cs, hh, _, _⟩ := h.heap
  exact (Array.getElem?_eq_some_iff.1 hh).1
set_option maxRecDepth 100000 in
set_option maxHeartbeats 8000000 in
theorem lawShares (oa : Option Addr) (cap : Nat) (nodes : List Int) (salt : Int) (w : World) (h : SlAt icells w (.slice oa nodes.length cap) nodes) (h0 : 0 ≤ salt) (h1 : salt < 18446744073709551616) :
    Calls Try.prog 6 #[.slice oa nodes.length cap, .int .u64 salt] w fun e w' => e = .returned (.bool true) ∧ RowKit.Below w.heap.size w w' := by
  have HE := Lib.hid h
  have AL := Lib.hid alive_any
  clear h
  go_enter Try.func6, Try.ntmps6
  go_wp2_with fail
  refine (AL.out _).mono ?_
  rintro e w1 ⟨rfl, hb1⟩
  have HE2 := Lib.hid (HE.out.below icells_len (by decide) hb1 (Nat.le_refl _))
  have HB2 := Lib.hid hb1
  clear hb1
  by_cases h200 : (200 : Int) < (nodes.length : Int)
  · go_wp2_with fail
    go_ret
    exact ⟨rfl, HB2.out⟩
  have hnl : nodes.length ≤ 200 := by omega
  have ho3 := share_any oa cap nodes salt h0 h1 w1 HE2.out (by omega)
  have HO3 := Lib.hid ho3
  clear ho3
  go_wp2_with fail
  refine HO3.out.mono ?_
  rintro e w3 ⟨va, rfl, hsa, hb3⟩
  have HE3 := Lib.hid (HE2.out.below icells_len (by decide) hb3 (Nat.le_refl _))
  have HB3 := Lib.hid (HB2.out.trans (hb3.mono HB2.out.size))
  have HSA := Lib.hid hsa
  clear hsa hb3 HO3 HE2 HB2
  simp only [eight]
  have hone : ∀ n, n < 8 → (va n).oneCell' = true := fun n hn => by
    obtain ⟨oa, cap, hv⟩ := slAt_slice (HSA.out n hn)
    rw [hv]; rfl
  have hz0 : (w3.alloc (.cells #[.slice none 0 0, .slice none 0 0, .slice none 0 0, .slice none 0 0, .slice none 0 0, .slice none 0 0, .slice none 0 0, .slice none 0 0] 39)).heap[w3.heap.size]? = some (.cells #[.slice none 0 0, .slice none 0 0, .slice none 0 0, .slice none 0 0, .slice none 0 0, .slice none 0 0, .slice none 0 0, .slice none 0 0] 39) := heap_alloc_new _ _
  obtain ⟨W1, W2, W3, W4, W5, W6, W7, W8, g0, g1, g2, g3, g4, g5, g6, g7, e8, k8, b8⟩ := stores8 hz0 rfl hone
  have hbw : Below w3.heap.size w3 W8 := ((Below.refl _ _).alloc (Nat.le_refl _) _).trans (b8 _ (Nat.le_refl _))
  have hz8 : w3.heap.size < W8.heap.size := (Array.getElem?_eq_some_iff.1 e8).1
  have hb9 : Below W8.heap.size W8 (W8.alloc (.cells #[.int .i64 0, .int .i64 0, .int .i64 0, .int .i64 0, .int .i64 0, .int .i64 0, .int .i64 0, .int .i64 0] 35)) := (Below.refl _ _).alloc (Nat.le_refl _) _
  have hca : ∀ n, n < 8 → W8.cell? ⟨w3.heap.size, n, none⟩ = some (va n) := fun n hn => by
    rw [cell_of_row _ _ n _ _ _ e8]; exact eight_at va n hn
  have ca0 := hca 0 (by decide)
  have ca1 := hca 1 (by decide)
  have ca2 := hca 2 (by decide)
  have ca3 := hca 3 (by decide)
  have ca4 := hca 4 (by decide)
  have ca5 := hca 5 (by decide)
  have ca6 := hca 6 (by decide)
  have ca7 := hca 7 (by decide)
  have hpl : Places W8.heap.size (W8.alloc (.cells #[.int .i64 0, .int .i64 0, .int .i64 0, .int .i64 0, .int .i64 0, .int .i64 0, .int .i64 0, .int .i64 0] 35)) (fun k => metI nodes salt 0 0 k) := by
    refine ⟨_, heap_alloc_new _ _, rfl, fun n hn => ?_⟩
    rw [met_start]
    have : n = 0 ∨ n = 1 ∨ n = 2 ∨ n = 3 ∨ n = 4 ∨ n = 5 ∨ n = 6 ∨ n = 7 := by omega
    rcases this with rfl | rfl | rfl | rfl | rfl | rfl | rfl | rfl <;> rfl
  have hbA := hbw.trans (hb9.mono (Nat.le_of_lt hz8))
  have HPL := Lib.hid hpl
  have HBA := Lib.hid hbA
  clear hone hz0 e8 k8 b8 hbw hb9 hpl hbA hca
  go_wp2_with fail
  clear g0 g1 g2 g3 g4 g5 g6 g7 ca0 ca1 ca2 ca3 ca4 ca5 ca6 ca7
  generalize (W8.alloc (.cells #[.int .i64 0, .int .i64 0, .int .i64 0, .int .i64 0, .int .i64 0, .int .i64 0, .int .i64 0, .int .i64 0] 35)) = w9 at *
  generalize W8.heap.size = n8 at *
  go_wp2_with fail
  go_loopg [25] 8 (fun gk s25 wr => ∃ (i : Nat), s25 = .int .i64 i ∧ i ≤ 8 ∧ 8 - i ≤ gk ∧ Hid (Places n8 wr (fun k => metI nodes salt i 0 k)) ∧ Hid (Below w3.heap.size w3 wr))
  case atStart => exact ⟨0, rfl, Nat.zero_le _, Nat.le_refl _, HPL, HBA⟩
  case round =>
    obtain ⟨i, rfl, hi, hg, HP, HB⟩ := hrel
    by_cases hlt : i < 8
    · have hltz : (i : Int) < 8 := by omega
      have hix := fun W => index8 va i hlt W
      obtain ⟨oA, cA, hA⟩ := slAt_slice (HSA.out i hlt)
      have hsl := HSA.out i hlt
      rw [hA] at hix hsl
      have HSL := Lib.hid hsl
      have hsm := shareTo_len nodes salt i 8
      have hms := met_step nodes salt i
      have hmn := met_next nodes salt i
      have hmm := shareTo_mem nodes salt i
      have hri := shareTo_rises nodes salt i
      have HMS := Lib.hid hms
      have HMN := Lib.hid hmn
      have HMM := Lib.hid hmm
      have HRI := Lib.hid hri
      clear hA hsl hms hmn hmm hri
      generalize shareTo nodes salt i 8 = s at *
      generalize wr = wq at *
      go_wp2_with fail
      clear hix
      go_loopg [31] s.length (fun gk2 s31 wr => ∃ (j : Nat), s31 = .int .i64 j ∧ j ≤ s.length ∧ s.length - j ≤ gk2 ∧ Hid (Places n8 wr (fun k => metI nodes salt i j k)) ∧ Hid (Below w3.heap.size w3 wr))
      case atStart => exact ⟨0, rfl, Nat.zero_le _, Nat.le_refl _, HP, HB⟩
      case round =>
        obtain ⟨j, rfl, hj, hg2, HP2, HB2⟩ := hrel
        by_cases hlj : j < s.length
        · have hljz : (j : Int) < (s.length : Int) := by omega
          obtain ⟨k, hk, hk8, hko⟩ := (HMM.out _).1 (List.getElem_mem hlj)
          obtain ⟨hm0, hm1⟩ := HMS.out j hlj k hk
          have hk8z : (k : Int) < 8 := by omega
          have hs2 := HSL.out.below icells_len (by decide) HB2.out (Nat.le_refl _)
          obtain ⟨b, off, rfl⟩ := hs2.plain icells_len (by decide) (by intro e; rw [e] at hlj; exact absurd hlj (by simp))
          have hcl : ∀ a (ha : a < s.length), wr.cell? ⟨b, off + a, none⟩ = some (.int .i64 (s[a]'ha)) := fun a ha => by
            have := hs2.cell icells_len (i := a) (c := 0) ha (by decide)
            simpa [icells] using this
          have c0 := hcl j hlj
          rw [hk] at c0
          have p0 := HP2.out.cell k hk8
          simp only [hm0] at p0
          have f0 := HP2.out.frozen k
          have hps := HP2.out.set k 1 hk8 (g := fun n => metI nodes salt i (j + 1) n) (fun n hn => hm1 n hn)
          have hbs := HB2.out.setCell (p := ⟨n8, k, none⟩) (Nat.le_of_lt hz8) (.int .i64 1)
          have how := fun W (hW : SlAt icells W (.slice oa nodes.length cap) nodes) => owner_any oa cap nodes k salt h0 h1 W hW (by omega)
          have hes := HE3.out.below icells_len (by decide) hbs (Nat.le_refl _)
          have HOW := Lib.hid (how _ hes)
          have HPS := Lib.hid hps
          have HBS := Lib.hid hbs
          have HKO := Lib.hid hko
          have hbn : ∀ (kk : Nat), j = kk + 1 → ∃ y, wr.cell? ⟨b, off + kk, none⟩ = some (.int .i64 y) ∧ y < (k : Int) := fun kk hkk => by
            have hkl : kk < s.length := by omega
            refine ⟨s[kk]'hkl, hcl kk hkl, ?_⟩
            have := List.pairwise_iff_getElem.1 HRI.out kk j hkl hlj (by omega)
            omega
          have HBN := Lib.hid hbn
          clear hm0 hm1 hs2 hcl hps hbs how hes hko hbn hk
          by_cases hj0 : j = 0
          · have hz : ¬ (0 : Int) < (j : Int) := by omega
            have HJ0 := Lib.hid hj0
            clear hj0
            go_wp2_with fail
            refine HOW.out.mono ?_
            rintro e w12 ⟨l, hr, rfl, hb⟩
            obtain rfl : l = rk nodes k salt := hr.eq (rk_ranks _ _ _) rfl
            have HP12 := Lib.hid (HPS.out.below hb HPS.out.lt)
            have HB12 := Lib.hid (HBS.out.trans (hb.mono HBS.out.size))
            rw [HKO.out]
            clear hr hb HOW HPS HBS HP2 HB2
            simp only
            go_wp2_with fail
            go_roundg (s.length - (j + 1))
            case measure => omega
            case rel => exact ⟨j + 1, by go_num, by omega, Nat.le_refl _, HP12, HB12⟩
          · obtain ⟨kk, hkk⟩ : ∃ kk, j = kk + 1 := ⟨j - 1, by omega⟩
            obtain ⟨y, cy, hy⟩ := HBN.out kk hkk
            have hkz : (kk : Int) < (s.length : Int) := by omega
            have hk1 : (0 : Int) < (j : Int) := by omega
            have hnk1 : (j : Int) - 1 = (kk : Int) := by omega
            have hwk : IntKind.i64.wrap (kk : Int) = (kk : Int) := IntWalk.i64_in _ (by omega)
            have hy' : ¬ (k : Int) ≤ y := by omega
            have HKK := Lib.hid hkk
            clear hj0 hkk
            go_wp2_with fail
            refine HOW.out.mono ?_
            rintro e w12 ⟨l, hr, rfl, hb⟩
            obtain rfl : l = rk nodes k salt := hr.eq (rk_ranks _ _ _) rfl
            have HP12 := Lib.hid (HPS.out.below hb HPS.out.lt)
            have HB12 := Lib.hid (HBS.out.trans (hb.mono HBS.out.size))
            rw [HKO.out]
            clear hr hb HOW HPS HBS HP2 HB2
            simp only
            go_wp2_with fail
            go_roundg (s.length - (j + 1))
            case measure => omega
            case rel => exact ⟨j + 1, by go_num, by omega, Nat.le_refl _, HP12, HB12⟩
        · have hljz : ¬ (j : Int) < (s.length : Int) := by omega
          obtain rfl : j = s.length := by omega
          have hp2 := HP2.out.congr (g := fun k => metI nodes salt (i + 1) 0 k) (fun n hn => (HMN.out n hn).symm)
          have HP3 := Lib.hid hp2
          clear hp2
          go_wp2_with fail
          go_roundg (8 - (i + 1))
          case measure => omega
          case rel => exact ⟨i + 1, by go_num, by omega, Nat.le_refl _, HP3, HB2⟩
    · have hltz : ¬ (i : Int) < 8 := by omega
      obtain rfl : i = 8 := by omega
      have ho := order_any oa cap nodes 0 salt h0 h1 wr (HE3.out.below icells_len (by decide) HB.out (Nat.le_refl _)) (by omega)
      have HO := Lib.hid ho
      clear ho
      go_wp2_with fail
      refine HO.out.mono ?_
      rintro e w10 ⟨oq, cq, l, rfl, hr, hs, hb⟩
      have HB10 := Lib.hid (HB3.out.trans ((HB.out.trans (hb.mono HB.out.size)).mono HB3.out.size))
      obtain ⟨c, hc⟩ : ∃ c : Int, c = if there nodes = [] then 0 else 1 := ⟨_, rfl⟩
      have hp10 := (HP.out.below hb HP.out.lt).congr (g := fun _ => c) (fun n hn => by rw [hc]; exact (met_all nodes salt n).symm)
      have c0 := hp10.cell 0 (by decide)
      have c1 := hp10.cell 1 (by decide)
      have c2 := hp10.cell 2 (by decide)
      have c3 := hp10.cell 3 (by decide)
      have c4 := hp10.cell 4 (by decide)
      have c5 := hp10.cell 5 (by decide)
      have c6 := hp10.cell 6 (by decide)
      have c7 := hp10.cell 7 (by decide)
      have hcl : (0 < l.length ∧ c = 1) ∨ (l = [] ∧ c = 0) := by
        by_cases ht : there nodes = []
        · right
          have hp := hr.perm
          rw [ht] at hp
          exact ⟨List.perm_nil.1 hp, by rw [hc, if_pos ht]⟩
        · left
          refine ⟨?_, by rw [hc, if_neg ht]⟩
          rw [hr.perm.length_eq]
          exact List.length_pos_iff.2 ht
      have hix := fun i hi W => index8i c i hi W
      have HIX := Lib.hid hix
      clear hr hs hb hp10 hc HO HP HB hix
      rcases hcl with ⟨hl0, rfl⟩ | ⟨rfl, rfl⟩
      · have hlz : (0 : Int) < (l.length : Int) := by omega
        generalize l.length = m at *
        go_wp2_with fail
        go_loopg [82] 8 (fun gk s82 wr => ∃ (i : Nat), s82 = .int .i64 i ∧ i ≤ 8 ∧ 8 - i ≤ gk ∧ wr = w10)
        case atStart => exact ⟨0, rfl, Nat.zero_le _, Nat.le_refl _, rfl⟩
        case round =>
          obtain ⟨i, rfl, hi, hg, hwr⟩ := hrel
          subst hwr
          by_cases hlt : i < 8
          · have hltz : (i : Int) < 8 := by omega
            have hix := HIX.out i hlt
            go_wp2_with fail
            go_roundg (8 - (i + 1))
            case measure => omega
            case rel => exact ⟨i + 1, by go_num, by omega, Nat.le_refl _, rfl⟩
          · have hltz : ¬ (i : Int) < 8 := by omega
            go_wp2_with fail
            go_ret
            exact ⟨rfl, HB10.out⟩
      · simp only [List.length_nil]
        go_wp2_with fail
        go_loopg [82] 8 (fun gk s82 wr => ∃ (i : Nat), s82 = .int .i64 i ∧ i ≤ 8 ∧ 8 - i ≤ gk ∧ wr = w10)
        case atStart => exact ⟨0, rfl, Nat.zero_le _, Nat.le_refl _, rfl⟩
        case round =>
          obtain ⟨i, rfl, hi, hg, hwr⟩ := hrel
          subst hwr
          by_cases hlt : i < 8
          · have hltz : (i : Int) < 8 := by omega
            have hix := HIX.out i hlt
            go_wp2_with fail
            go_roundg (8 - (i + 1))
            case measure => omega
            case rel => exact ⟨i + 1, by go_num, by omega, Nat.le_refl _, rfl⟩
          · have hltz : ¬ (i : Int) < 8 := by omega
            go_wp2_with fail
            go_ret
            exact ⟨rfl, HB10.out⟩
end Go.Proofs.Ytlohmmhdfabjiaa
