/-
  The law ProbeRounds walked: it returns true, and turns nothing that was there.
-/
import Derived.Test.YtjffaekajjokiaaLaw19c
namespace Go.Proofs.Ytjffaekajjokiaa
open Go.Shelf Go.RowKit Go.Lib Go.Sort
set_option linter.unusedVariables false
/-- a step of a round: the same nodes told each time -/
theorem next_round (s : Int) (ws nodes : List Int) (hs : ∀ x ∈ ws, x ∈ nodes) : nextL s ws nodes = if ws = [] then shufL s (onceL nodes) else (s, ws) := by
  have hf : ws.filter (fun x => !goneL nodes x) = ws := List.filter_eq_self.2 fun x hx => by simp [goneL, hs x hx]
  unfold nextL
  rw [hf]
/-- where a round stands: j are met, the others wait -/
def Round (nodes ws S : List Int) (j : Nat) : Prop := (j = 0 ∧ ws = [] ∧ S = []) ∨ ∃ L : List Int, L.Perm (onceL nodes) ∧ ws = L.drop j ∧ S = L.take j
theorem round_start (nodes : List Int) : Round nodes [] [] 0 := .inl ⟨rfl, rfl, rfl⟩
theorem round_len {nodes ws S : List Int} {j : Nat} (h : Round nodes ws S j) : ws.length ≤ nodes.length := by
  have hol := onceL_len nodes
  rcases h with ⟨_, rfl, _⟩ | ⟨L, hp, rfl, _⟩
  · simp
  · rw [List.length_drop, hp.length_eq]; omega
theorem round_step {nodes ws S : List Int} {j : Nat} {s x : Int} (h : Round nodes ws S j) (hl : nodes.length ≤ 900000) (hj : j < (onceL nodes).length) (hx : (nextL s ws nodes).2.head? = some x) :
    x ∈ nodes ∧ x ∉ S ∧ Round nodes (nextL s ws nodes).2.tail (addS S x) (j + 1) := by
  have key : ∀ L : List Int, L.Perm (onceL nodes) → (L.drop j).head? = some x → x ∈ nodes ∧ x ∉ L.take j ∧ Round nodes (L.drop j).tail (addS (L.take j) x) (j + 1) := by
    intro L hp he
    have hlt : j < L.length := by rw [hp.length_eq]; exact hj
    rw [List.drop_eq_getElem_cons hlt] at he ⊢
    simp only [List.head?_cons, Option.some.injEq] at he
    subst he
    have hnd : L.Nodup := hp.nodup_iff.2 (onceL_nodup nodes)
    obtain ⟨h1, h2⟩ := addS_take L j hlt hnd
    exact ⟨((onceL_is nodes).2 _).1 (hp.mem_iff.1 (List.getElem_mem hlt)), h1, .inr ⟨L, hp, by simp, h2⟩⟩
  rcases h with ⟨rfl, rfl, rfl⟩ | ⟨L, hp, rfl, rfl⟩
  · have hn : nextL s [] nodes = shufL s (onceL nodes) := by rw [next_round _ _ _ (fun x hx => by cases hx), if_pos rfl]
    rw [hn] at hx ⊢
    have hp := shufL_perm s (onceL nodes) (by have := onceL_len nodes; omega)
    have := key (shufL s (onceL nodes)).2 hp (by simpa using hx)
    simpa using this
  · have hne : L.drop j ≠ [] := by
      intro e
      have := congrArg List.length e
      rw [List.length_drop, hp.length_eq] at this
      simp at this
      omega
    have hn : nextL s (L.drop j) nodes = (s, L.drop j) := by
      rw [next_round _ _ _ (fun x hx => ((onceL_is nodes).2 x).1 (hp.mem_iff.1 (List.mem_of_mem_drop hx))), if_neg hne]
    rw [hn] at hx ⊢
    exact key L hp hx
theorem round_end {nodes ws S : List Int} {j : Nat} (h : Round nodes ws S j) (hj : j = (onceL nodes).length) (hn : nodes ≠ []) : ws = [] := by
  rcases h with ⟨_, rfl, _⟩ | ⟨L, hp, rfl, _⟩
  · rfl
  · rw [List.drop_eq_nil_of_le (by rw [hp.length_eq]; omega)]
theorem addS_nodup {S : List Int} (h : S.Nodup) (x : Int) : (addS S x).Nodup := by
  unfold addS
  split
  · exact h
  · rename_i hx
    refine List.nodup_append.2 ⟨h, by simp, fun a ha b hb e => ?_⟩
    obtain rfl : b = x := by simpa using hb
    subst e
    exact hx ha
/-- a set without repeats of what is in a list has as many as the list has, each once -/
theorem once_size {S nodes : List Int} (hn : S.Nodup) (hm : ∀ x, x ∈ S ↔ x ∈ nodes) : S.length = (onceL nodes).length := by
  have h1 : S ⊆ onceL nodes := fun x hx => ((onceL_is nodes).2 x).2 ((hm x).1 hx)
  have h2 : onceL nodes ⊆ S := fun x hx => (hm x).2 (((onceL_is nodes).2 x).1 hx)
  exact Nat.le_antisymm (hn.length_le_of_subset h1) ((onceL_nodup nodes).length_le_of_subset h2)
/-- a map's block is turned: an order lies elsewhere -/
theorem obj_of_map {T b B bt n : Nat} {W W' : World} {s : Int} {ws S : List Int} (h : Obj T b B W s ws) (hm : IsSet W bt n S) (hg : W.grownBy W' (some bt)) (hb : b ≠ bt) : Obj T b B W' s ws := by
  obtain ⟨v, h1, h2, h3, h4⟩ := h
  refine ⟨v, h1.keep (hg.block b h1.lt (by simpa using hb)), h2.grown icells_len (by decide) hg ?_, h3, h4⟩
  by_cases hws : ws = []
  · exact .inl hws
  · right
    intro e
    obtain ⟨oa, cap, rfl⟩ := slAt_slice h2
    obtain ⟨g, off, rfl⟩ := h2.plain icells_len (by decide) hws
    obtain rfl : g = bt := by simpa [Value.ownBlock] using e
    have hc := h2.cell icells_len (i := 0) (c := 0) (List.length_pos_iff.2 hws) (by decide)
    obtain ⟨D, ⟨es, clock, hmb, _⟩, _⟩ := hm
    simp [World.cell?, hmb, icells] at hc
set_option maxRecDepth 100000 in
set_option maxHeartbeats 8000000 in
theorem lawRounds (seed : Int) (oa : Option Addr) (cap : Nat) (nodes : List Int) (n : Int) (w : World) (h : SlAt icells w (.slice oa nodes.length cap) nodes) (hf : ∀ x ∈ nodes, Fits x) (h0 : 0 ≤ n) (h1 : n ≤ 255) :
    Calls Try.prog 3 #[.int .u64 seed, .slice oa nodes.length cap, .int .u8 n] w fun e w' => e = .returned (.bool true) ∧ RowKit.Below w.heap.size w w' := by
  have HE := Lib.hid h
  have HF := Lib.hid hf
  have AL := Lib.hid alive_any
  obtain ⟨r, hr, hr10⟩ : ∃ r : Nat, n.tmod 10 = (r : Int) ∧ r < 10 := by
    rw [Int.tmod_eq_emod_of_nonneg h0]
    exact ⟨(n % 10).toNat, by omega, by omega⟩
  have hwr : IntKind.u8.wrap (n.tmod 10) = (r : Int) := by rw [hr, IntKind.wrap_u8]; omega
  clear h hf
  go_enter Try.func3, Try.ntmps3
  go_wp2_with fail
  refine (AL.out _).mono ?_
  rintro e w1 ⟨rfl, hb1⟩
  have HB1 := Lib.hid hb1
  clear hb1
  by_cases h60 : (60 : Int) < (nodes.length : Int)
  · have h60b : decide ((nodes.length : Int) > 60) = true := decide_eq_true h60
    go_wp2_with fail
    go_ret
    exact ⟨rfl, HB1.out⟩
  have h60b : decide ((nodes.length : Int) > 60) = false := decide_eq_false h60
  by_cases hz : nodes.length = 0
  · have hzb : ((nodes.length : Int) == 0) = true := by rw [hz]; rfl
    go_wp2_with fail
    go_ret
    exact ⟨rfl, HB1.out⟩
  have hzb : ((nodes.length : Int) == 0) = false := beq_eq_false_iff_ne.2 (by omega)
  have hnl : nodes.length ≤ 60 := by omega
  have hne : nodes ≠ [] := fun e => hz (by rw [e]; rfl)
  have HNE := Lib.hid hne
  have HSB := Lib.hid (HE.out.lt icells_len (by decide) hne)
  have hmm := @run_makeMap Try.prog
  clear hne hz
  go_wp2_with fail
  clear h60 h60b hzb
  have HM4 := Lib.hid (IsSet.made w1)
  have HB4 := Lib.hid (HB1.out.alloc HB1.out.size (.map #[] 0))
  have hbm : w.heap.size ≤ w1.heap.size := HB1.out.size
  clear HB1
  generalize w1.alloc (.map #[] 0) = w4 at *
  generalize w1.heap.size = bm at *
  go_loopg [27] nodes.length (fun gk s27 wr => ∃ (i : Nat) (S : List Int), s27 = .int .i64 i ∧ i ≤ nodes.length ∧ nodes.length - i ≤ gk ∧ Hid (IsSet wr bm i S) ∧ Hid (S.Nodup ∧ ∀ x, x ∈ S ↔ x ∈ nodes.take i) ∧ Hid (Below w.heap.size w wr))
  case atStart => exact ⟨0, [], rfl, Nat.zero_le _, Nat.le_refl _, HM4, by show _ ∧ _; exact ⟨List.nodup_nil, fun x => by simp⟩, HB4⟩
  case round =>
    clear HM4 HB4
    obtain ⟨i, S, rfl, hi, hg, HM, HSS, HB⟩ := hrel
    by_cases hlt : i < nodes.length
    · have hltz : (i : Int) < (nodes.length : Int) := by omega
      have hsl := HE.out.below icells_len (by decide) HB.out (Nat.le_refl _)
      obtain ⟨b, off, rfl⟩ := hsl.plain icells_len (by decide) (by intro e; rw [e] at hlt; exact absurd hlt (by simp))
      obtain ⟨x, hx⟩ : ∃ x, x = nodes[i]'hlt := ⟨_, rfl⟩
      have d0 : wr.cell? ⟨b, off + i, none⟩ = some (.int .i64 x) := by
        have := hsl.cell icells_len (i := i) (c := 0) hlt (by decide)
        simpa [icells, hx] using this
      have hxf : Fits x := by rw [hx]; exact HF.out _ (List.getElem_mem hlt)
      have hss : (addS S x).Nodup ∧ ∀ y, y ∈ addS S x ↔ y ∈ nodes.take (i + 1) := by
        refine ⟨addS_nodup HSS.out.1 x, fun y => ?_⟩
        rw [mem_addS, HSS.out.2, List.take_succ_eq_append_getElem hlt, List.mem_append, List.mem_singleton, hx]
      obtain ⟨w5, hst, hm5, hg5⟩ := HM.out.store x hxf (by omega)
      have HM5 := Lib.hid hm5
      have HSS5 := Lib.hid hss
      have HB5 := Lib.hid (below_of_grown HB.out hg5 hbm HB.out.size)
      clear hsl hx hxf hss hm5 hg5
      go_wp2_with fail
      go_roundg (nodes.length - (i + 1))
      case measure => omega
      case rel => exact ⟨i + 1, addS S x, by go_num, by omega, Nat.le_refl _, HM5, HSS5, HB5⟩
    · have hltz : ¬ (i : Int) < (nodes.length : Int) := by omega
      obtain rfl : i = nodes.length := by omega
      have hss := HSS.out
      rw [List.take_length] at hss
      have hsz := once_size hss.1 hss.2
      have HSW := Lib.hid hss.2
      have HSZ := Lib.hid hsz
      have hn := new_any seed wr
      have HN := Lib.hid hn
      clear hss hsz HSS hn
      go_wp2_with fail
      refine HN.out.mono ?_
      rintro e w2 ⟨rfl, hw2⟩
      obtain ⟨b1, hb1⟩ : ∃ b, b = wr.heap.size := ⟨_, rfl⟩
      rw [← hb1]
      have hb1w : w.heap.size ≤ b1 := by rw [hb1]; exact HB.out.size
      have hbm1 : bm < b1 := by rw [hb1]; exact HM.out.lt
      have HO2 := Lib.hid (show Obj 45 b1 (b1 + 1) w2 seed [] by rw [hw2, hb1]; exact obj_at (obj_new wr seed) (Nat.lt_succ_self _))
      have hbw : Below wr.heap.size wr w2 := by rw [hw2]; exact (Below.refl _ _).alloc (Nat.le_refl _) _
      have hz2 : b1 + 1 ≤ w2.heap.size := by rw [hw2, hb1]; simp
      have HB2 := Lib.hid (HB.out.trans (hbw.mono HB.out.size))
      have HM2 := Lib.hid (HM.out.below hbw HM.out.lt)
      clear hw2 hb1 hbw HN HB HM
      go_wp2_with fail
      go_loopg [38] r (fun gk s38 wr => ∃ (i : Nat) (s : Int), s38 = .int .u8 i ∧ i ≤ r ∧ r - i ≤ gk ∧ Hid (Obj 45 b1 (b1 + 1) wr s []) ∧ Hid (IsSet wr bm nodes.length S) ∧ Hid (Below w.heap.size w wr) ∧ b1 + 1 ≤ wr.heap.size)
      case atStart => exact ⟨0, seed, rfl, Nat.zero_le _, Nat.le_refl _, HO2, HM2, HB2, hz2⟩
      case round =>
        clear HO2 HM2 HB2 hz2
        obtain ⟨i, s, rfl, hi, hg, HO, HM, HB, hz⟩ := hrel
        by_cases hlt : i < r
        · have hltz : (i : Int) < (r : Int) := by omega
          have hwi : IntKind.u8.wrap ((i : Int) + 1) = (i : Int) + 1 := by rw [IntKind.wrap_u8]; omega
          have hbw : Below wr.heap.size wr (wr.alloc (.map #[] 0)) := (Below.refl _ _).alloc (Nat.le_refl _) _
          have hm3 := HM.out.below hbw HM.out.lt
          have hlen := hm3.len 3
          rw [HSZ.out] at hlen
          have HM3 := Lib.hid hm3
          have HO3 := Lib.hid (HO.out.below hbw (Nat.le_refl _))
          have HB3 := Lib.hid (HB.out.trans (hbw.mono HB.out.size))
          have HT3 := Lib.hid (IsSet.made wr)
          have hzt : b1 < wr.heap.size := HO.out.lt
          have hz3 : b1 + 1 ≤ (wr.alloc (.map #[] 0)).heap.size := by simp; omega
          clear hm3 hbw HO HM HB
          go_wp2_with fail
          generalize wr.alloc (.map #[] 0) = w6 at *
          generalize wr.heap.size = bt at *
          clear hlen
          go_loopg [43] (onceL nodes).length (fun gk s43 wr => ∃ (j : Nat) (s : Int) (ws S2 : List Int), s43 = .int .i64 j ∧ j ≤ (onceL nodes).length ∧ (onceL nodes).length - j ≤ gk ∧ Hid (Obj 45 b1 (b1 + 1) wr s ws) ∧ Hid (IsSet wr bm nodes.length S) ∧ Hid (IsSet wr bt j S2) ∧ Hid (Round nodes ws S2 j) ∧ Hid (Below w.heap.size w wr) ∧ b1 + 1 ≤ wr.heap.size)
          case atStart => exact ⟨0, s, [], [], rfl, Nat.zero_le _, Nat.le_refl _, HO3, HM3, HT3, round_start nodes, HB3, hz3⟩
          case round =>
            clear HO3 HM3 HT3 HB3 hz3
            obtain ⟨j, s, ws, S2, rfl, hj, hgj, HO, HM, HT, HRD, HB, hzw⟩ := hrel
            have hol := onceL_len nodes
            by_cases hjl : j < (onceL nodes).length
            · have hjz : (j : Int) < ((onceL nodes).length : Int) := by omega
              have hn1 := next_any b1 (b1 + 1) s ws oa cap nodes wr HO.out hzw (HE.out.below icells_len (by decide) HB.out (Nat.le_refl _)) HNE.out (fun g hg => by have := HSB.out g hg; omega) (by omega) (by have := round_len HRD.out; omega)
              have HN1 := Lib.hid hn1
              clear hn1
              go_wp2_with fail
              refine HN1.out.mono ?_
              rintro e w7 ⟨x, rfl, hx, ho7, hg7⟩
              obtain ⟨hxn, hxs, hrd⟩ := round_step HRD.out (by omega) hjl hx
              have hxf := HF.out x hxn
              have hm7 := HM.out.kept hg7 (by simp; omega)
              have ht7 := HT.out.kept hg7 (by simp; omega)
              have hb7 := below_of_grown HB.out hg7 hb1w HB.out.size
              have hlk1 := hm7.look x hxf
              rw [decide_eq_true ((HSW.out x).2 hxn)] at hlk1
              have hlk2 := ht7.look x hxf
              rw [decide_eq_false hxs] at hlk2
              obtain ⟨w8, hst, ht8, hg8⟩ := ht7.store x hxf (by omega)
              have HM8 := Lib.hid (hm7.kept hg8 (by simp; omega))
              have HT8 := Lib.hid ht8
              have HB8 := Lib.hid (below_of_grown hb7 hg8 (by omega) hb7.size)
              have HO8 : Hid (Obj 45 b1 (b1 + 1) w8 (nextL s ws nodes).1 (nextL s ws nodes).2.tail) := by
                exact obj_of_map ho7 ht7 hg8 (by omega)
              have HRD8 := Lib.hid hrd
              have hz8 : b1 + 1 ≤ w8.heap.size := by have := hg7.size; have := hg8.size; omega
              clear hx ho7 hg7 hxn hxs hrd hxf hm7 ht7 hb7 ht8 hg8 HO HM HT HRD HB HN1
              go_wp2_with fail
              go_roundg ((onceL nodes).length - (j + 1))
              case measure => omega
              case rel => exact ⟨j + 1, _, _, _, by go_num, by omega, Nat.le_refl _, HO8, HM8, HT8, HRD8, HB8, hz8⟩
            · have hjz : ¬ (j : Int) < ((onceL nodes).length : Int) := by omega
              have hws := round_end HRD.out (by omega) HNE.out
              have HO9 := Lib.hid (show Obj 45 b1 (b1 + 1) wr s [] by rw [← hws]; exact HO.out)
              clear hws HO HRD HT
              go_wp2_with fail
              go_roundg (r - (i + 1))
              case measure => omega
              case rel => exact ⟨i + 1, s, by go_num, by omega, Nat.le_refl _, HO9.out, HM.out, HB.out, hzw⟩
        · have hltz : ¬ (i : Int) < (r : Int) := by omega
          go_wp2_with fail
          go_ret
          exact ⟨rfl, HB.out⟩
end Go.Proofs.Ytjffaekajjokiaa
