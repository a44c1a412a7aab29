/-
  The law's steps as they lie in memory; great, alive and Ints walked.
-/
import Derived.Test.YtjffaekajjokiaaNext
namespace Go.Proofs.Ytjffaekajjokiaa
open Go.Shelf Go.RowKit Go.Lib Go.Sort
set_option linter.unusedVariables false
set_option maxHeartbeats 2000000 in
theorem ints_any (oa ob : Option Addr) (ca cb : Nat) (l : List Int) (w : World) (ha : SlAt icells w (.slice oa l.length ca) l) (hb : SlAt icells w (.slice ob l.length cb) l) (hl : l.length ≤ 1000000) :
    Calls Try.prog 13 #[.slice oa l.length ca, .slice ob l.length cb] w fun e w' => e = .returned (.bool true) ∧ ∃ q, w' = w.drewN q := by
  have HA := Lib.hid ha
  have HB := Lib.hid hb
  clear ha hb
  go_enter Try.func13, Try.ntmps13
  go_wp2_with fail
  go_loopg [5, 13] l.length (fun gk s5 s13 wr => ∃ (i q : Nat), s13 = .int .i64 i ∧ i ≤ l.length ∧ l.length - i ≤ gk ∧ wr = w.drewN q)
  case atStart => exact ⟨0, 0, rfl, Nat.zero_le _, Nat.le_refl _, rfl⟩
  case round =>
    obtain ⟨i, q, rfl, hi, hg, rfl⟩ := hrel
    by_cases hlt : i < l.length
    · have hltz : (i : Int) < (l.length : Int) := by omega
      have hsa := HA.out
      have hsb := HB.out
      obtain ⟨b1, off1, rfl⟩ := hsa.plain icells_len (by decide) (by intro e; rw [e] at hlt; exact absurd hlt (by simp))
      obtain ⟨b2, off2, rfl⟩ := hsb.plain icells_len (by decide) (by intro e; rw [e] at hlt; exact absurd hlt (by simp))
      have c1 : w.cell? ⟨b1, off1 + i, none⟩ = some (.int .i64 (l[i]'hlt)) := by
        have := hsa.cell icells_len (i := i) (c := 0) hlt (by decide)
        simpa [icells] using this
      have c2 : w.cell? ⟨b2, off2 + i, none⟩ = some (.int .i64 (l[i]'hlt)) := by
        have := hsb.cell icells_len (i := i) (c := 0) hlt (by decide)
        simpa [icells] using this
      generalize l[i]'hlt = y at c1 c2
      clear hsa hsb
      go_wp2_with fail
      go_quiet (fail)
      go_wp2_with fail
      go_roundg (l.length - (i + 1))
      case measure => omega
      case rel => exact ⟨i + 1, q + nq, by go_num, by omega, Nat.le_refl _, by first | rfl | exact World.drewN_drewN _ _ _⟩
    · have hltz : ¬ (i : Int) < (l.length : Int) := by omega
      go_wp2_with fail
      go_ret
      exact ⟨rfl, q, rfl⟩
/-- what the step New leaves -/
theorem obj_new {T : Nat} (w : World) (s : Int) : Ord2 w.heap.size (w.alloc (.cells #[.int .u64 s, .slice none 0 0] T)) s (.slice none 0 0) T := ⟨heap_alloc_new w _⟩
theorem obj_at {T b B : Nat} {w : World} {s : Int} (h : Ord2 b w s (.slice none 0 0) T) (hB : b < B) : Obj T b B w s [] := ⟨_, h, SlAt.nil _ _, hB, fun g hg => by simp [Value.ownBlock] at hg⟩
theorem below_of_grown {B b : Nat} {w w1 w2 : World} (h : Below B w w1) (hg : w1.grownBy w2 (some b)) (hb : B ≤ b) (hB : B ≤ w1.heap.size) : Below B w w2 := h.grown hg hB fun k hk => by cases hk; exact hb
theorem once_one (x : Int) : onceL [x] = [x] := (onceL_eq (by simp [Rises]) fun y => Iff.rfl).symm
theorem next_one (s x : Int) : nextL s [] [x] = (s, [x]) := by
  unfold nextL
  rw [show (([] : List Int).filter fun y => !goneL [x] y) = [] from rfl, if_pos rfl, once_one]
  rfl
set_option maxRecDepth 100000 in
set_option maxHeartbeats 4000000 in
theorem alive_any (w : World) : Calls Try.prog 7 #[] w fun e w' => e = .returned (.bool true) ∧ Below w.heap.size w w' := by
  go_enter Try.func7, Try.ntmps7
  go_wp2_with fail
  refine (new_any 5 w).mono ?_
  rintro e w1 ⟨rfl, hw1⟩
  have HB1 := Lib.hid (show Below w.heap.size w w1 by rw [hw1]; exact (Below.refl _ _).alloc (Nat.le_refl _) _)
  have HO1 := Lib.hid (show Obj 45 w.heap.size (w.heap.size + 1) w1 5 [] by rw [hw1]; exact obj_at (obj_new w 5) (Nat.lt_succ_self _))
  have hz1 : w.heap.size + 1 ≤ w1.heap.size := by rw [hw1]; simp
  clear hw1
  have h2 := next_any w.heap.size (w.heap.size + 1) 5 [] (some ⟨w1.heap.size, 0, none⟩) 1 [3] (w1.alloc (.cells #[.int .i64 3] 3)) (HO1.out.below ((Below.refl _ _).alloc (Nat.le_refl _) _) (Nat.le_refl _)) (by simp; omega) (slAt_new _ _ _ _ _ _ _ rfl rfl (by decide)) (by simp) (fun g hg => by simp [Value.ownBlock] at hg; omega) (by decide) (by decide)
  rw [next_one] at h2
  have H2 := Lib.hid h2
  clear h2
  go_wp2_with fail
  refine H2.out.mono ?_
  rintro e w2 ⟨x, rfl, hx, ho2, hg2⟩
  obtain rfl : x = 3 := by simpa using hx.symm
  have HB2 := Lib.hid (below_of_grown ((HB1.out.alloc (by omega) (.cells #[.int .i64 3] 3))) hg2 (Nat.le_refl _) (by simp; omega))
  have HO2 := Lib.hid (show Obj 45 w.heap.size (w.heap.size + 1) w2 5 [] from ho2)
  have hz2 : w.heap.size + 1 ≤ w2.heap.size := by have := hg2.size; simp at this; omega
  clear hx ho2 hg2 H2 HO1 HB1
  have h3 := next_any w.heap.size (w.heap.size + 1) 5 [] (some ⟨w2.heap.size, 0, none⟩) 1 [3] (w2.alloc (.cells #[.int .i64 3] 3)) (HO2.out.below ((Below.refl _ _).alloc (Nat.le_refl _) _) (Nat.le_refl _)) (by simp; omega) (slAt_new _ _ _ _ _ _ _ rfl rfl (by decide)) (by simp) (fun g hg => by simp [Value.ownBlock] at hg; omega) (by decide) (by decide)
  rw [next_one] at h3
  have H3 := Lib.hid h3
  clear h3
  go_wp2_with fail
  refine H3.out.mono ?_
  rintro e w3 ⟨x, rfl, hx, ho3, hg3⟩
  obtain rfl : x = 3 := by simpa using hx.symm
  have HB3 := Lib.hid (below_of_grown ((HB2.out.alloc (by omega) (.cells #[.int .i64 3] 3))) hg3 (Nat.le_refl _) (by simp; omega))
  have HO3 := Lib.hid (show Obj 45 w.heap.size (w.heap.size + 1) w3 5 [] from ho3)
  have hz3 : w.heap.size + 1 ≤ w3.heap.size := by have := hg3.size; simp at this; omega
  clear hx ho3 hg3 H3 HO2 HB2
  have h4 := nextNone_any w.heap.size none 0 w3
  have H4 := Lib.hid h4
  clear h4
  go_wp2_with fail
  refine H4.out.mono ?_
  rintro e w4 ⟨rfl, hb4⟩
  have HB4 := Lib.hid (HB3.out.trans (hb4.mono (by omega)))
  have HO4 := Lib.hid (HO3.out.below hb4 (Nat.le_refl _))
  have hz4 : w.heap.size + 1 ≤ w4.heap.size := by have := hb4.size; omega
  clear hb4 H4 HO3 HB3
  have h5 := nextNil_any (some ⟨w4.heap.size, 0, none⟩) 1 1 (w4.alloc (.cells #[.int .i64 1] 3))
  have H5 := Lib.hid h5
  clear h5
  go_wp2_with fail
  refine H5.out.mono ?_
  rintro e w5 ⟨rfl, hb5⟩
  have HB5 := Lib.hid ((HB4.out.alloc (by omega) (.cells #[.int .i64 1] 3)).trans (hb5.mono (by simp; omega)))
  have HO5 := Lib.hid ((HO4.out.below ((Below.refl _ _).alloc (Nat.le_refl _) (.cells #[.int .i64 1] 3)) (Nat.le_refl _)).below hb5 (Nat.le_refl _))
  have hz5 : w.heap.size + 1 ≤ w5.heap.size := by have := hb5.size; simp at this; omega
  clear hb5 H5 HO4 HB4
  have h6 := some_any w.heap.size (w.heap.size + 1) 5 [] (some ⟨w5.heap.size, 0, none⟩) 3 [1, 2, 1] 9 (w5.alloc (.cells #[.int .i64 1, .int .i64 2, .int .i64 1] 3)) (HO5.out.below ((Below.refl _ _).alloc (Nat.le_refl _) _) (Nat.le_refl _)) (slAt_new _ _ _ _ _ _ _ rfl rfl (by decide)) (by decide)
  have H6 := Lib.hid h6
  clear h6
  go_wp2_with fail
  refine H6.out.mono ?_
  rintro e w6 ⟨v6, rfl, ho6, _, hg6⟩
  obtain ⟨o6, c6, rfl⟩ := slAt_slice ho6.at
  have HB6 := Lib.hid (below_of_grown ((HB5.out.alloc (by omega) (.cells #[.int .i64 1, .int .i64 2, .int .i64 1] 3))) hg6 (Nat.le_refl _) (by simp; omega))
  have hl6 : (someL 5 [1, 2, 1] 9).length = 2 := by
    unfold someL
    have : onceL [1, 2, 1] = [1, 2] := (onceL_eq (by simp [Rises]) fun y => by simp; omega).symm
    rw [List.length_take, shufL_len, this]
    rfl
  rw [hl6]
  clear ho6 hg6 H6 HO5 HB5 hl6
  go_wp2_with fail
  go_ret
  exact ⟨rfl, HB6.out⟩
/-- a step: its nodes' slice, its nodes, whether some are asked, how many -/
structure PO where
  oa : Option Addr
  cap : Nat
  nodes : List Int
  some : Bool
  n : Int
def PO.val (p : PO) : Value := .slice p.oa p.nodes.length p.cap
def ocells (p : PO) : List Value := [p.val, .bool p.some, .int .i64 p.n]
theorem ocells_len (p : PO) : (ocells p).length = 3 := rfl
def OpsAt (w : World) (v : Value) (ps : List PO) : Prop := SlAt ocells w v ps ∧ ∀ p ∈ ps, SlAt icells w p.val p.nodes
theorem OpsAt.below {w w' : World} {v : Value} {ps : List PO} {B : Nat} (h : OpsAt w v ps) (hb : Below B w w') (hB : w.heap.size ≤ B) : OpsAt w' v ps :=
  ⟨h.1.below ocells_len (by decide) hb hB, fun p hp => (h.2 p hp).below icells_len (by decide) hb hB⟩
theorem OpsAt.op {w : World} {b off n cap : Nat} {ps : List PO} (h : OpsAt w (.slice (some ⟨b, off, none⟩) n cap) ps) (i : Nat) (hi : i < ps.length) : ∃ oa c nodes s k, ps[i]? = some ⟨oa, c, nodes, s, k⟩ ∧ SlAt icells w (.slice oa nodes.length c) nodes ∧ w.cell? ⟨b, off + i * 3, none⟩ = some (.slice oa nodes.length c) ∧ w.cell? ⟨b, off + i * 3 + 1, none⟩ = some (.bool s) ∧ w.cell? ⟨b, off + i * 3 + 2, none⟩ = some (.int .i64 k) := by
  rcases hp : ps[i]'hi with ⟨oa, c, nodes, s, k⟩
  have h0 := h.1.cell ocells_len (i := i) (c := 0) hi (by decide)
  have h1 := h.1.cell ocells_len (i := i) (c := 1) hi (by decide)
  have h2 := h.1.cell ocells_len (i := i) (c := 2) hi (by decide)
  have h3 := h.2 _ (List.getElem_mem hi)
  rw [hp] at h0 h1 h2 h3
  exact ⟨oa, c, nodes, s, k, by rw [List.getElem?_eq_getElem hi, hp], h3, h0, by rw [Nat.add_assoc]; exact h1, by rw [Nat.add_assoc]; exact h2⟩
def sumW : List PO → Int → Int
  | [], a => a
  | p :: ps, a => sumW ps (wrap64 (a + p.nodes.length))
theorem sumW_snoc (ps : List PO) (p : PO) (a : Int) : sumW (ps ++ [p]) a = wrap64 (sumW ps a + p.nodes.length) := by
  induction ps generalizing a with
  | nil => rfl
  | cons q ps ih => exact ih _
theorem sumW_small : ∀ (ps : List PO) (a : Int), 0 ≤ a → a + (ps.length : Int) * 17592186044416 ≤ 9000000000000000000 → (∀ p ∈ ps, p.nodes.length ≤ 17592186044416) → a ≤ sumW ps a ∧ ∀ p ∈ ps, (p.nodes.length : Int) ≤ sumW ps a
  | [], a, _, _, _ => ⟨Int.le_refl _, fun p hp => nomatch hp⟩
  | q :: ps, a, h0, h1, h2 => by
    have hq := h2 q (by simp)
    simp only [List.length_cons] at h1
    have hw : wrap64 (a + q.nodes.length) = a + q.nodes.length := by unfold wrap64; omega
    obtain ⟨k1, k2⟩ := sumW_small ps (a + q.nodes.length) (by omega) (by omega) (fun p hp => h2 p (List.mem_cons_of_mem _ hp))
    rw [sumW, hw]
    refine ⟨by omega, fun p hp => ?_⟩
    rcases List.mem_cons.1 hp with rfl | hp
    · omega
    · exact k2 p hp
def greatB (ps : List PO) : Bool := if 300 < ps.length then true else decide (sumW ps 0 > 3000)
theorem great_not {ps : List PO} (h : greatB ps = false) (hf : ∀ p ∈ ps, p.nodes.length ≤ 17592186044416) : ps.length ≤ 300 ∧ ∀ p ∈ ps, p.nodes.length ≤ 3000 := by
  unfold greatB at h
  split at h
  · cases h
  · have h2 := sumW_small ps 0 (by omega) (by omega) hf
    simp only [decide_eq_false_iff_not] at h
    exact ⟨by omega, fun p hp => by have := h2.2 p hp; omega⟩
set_option maxRecDepth 100000 in
set_option maxHeartbeats 4000000 in
theorem great_any (oa : Option Addr) (cap : Nat) (ps : List PO) (w : World) (h : OpsAt w (.slice oa ps.length cap) ps) (hl : ps.length ≤ 1000000000000000) :
    Calls Try.prog 10 #[.slice oa ps.length cap] w fun e w' => e = .returned (.bool (greatB ps)) ∧ Below w.heap.size w w' := by
  have HE := Lib.hid h
  clear h
  go_enter Try.func10, Try.ntmps10
  go_wp2_with fail
  go_loopg [3, 8] ps.length (fun gk s3 s8 wr => ∃ (i : Nat), s8 = .int .i64 i ∧ s3 = .int .i64 (sumW (ps.take i) 0) ∧ i ≤ ps.length ∧ ps.length - i ≤ gk ∧ Hid (Below w.heap.size w wr))
  case atStart => exact ⟨0, rfl, rfl, Nat.zero_le _, Nat.le_refl _, Below.refl _ _⟩
  case round =>
    obtain ⟨i, rfl, rfl, hi, hg, HB⟩ := hrel
    by_cases hlt : i < ps.length
    · have hltz : (i : Int) < (ps.length : Int) := by omega
      have hsl := HE.out.below HB.out (Nat.le_refl _)
      obtain ⟨b, off, rfl⟩ := hsl.1.plain ocells_len (by decide) (by intro e; rw [e] at hlt; exact absurd hlt (by simp))
      obtain ⟨oa1, c1, nodes, s, k, hp, hn, d0, d1, d2⟩ := hsl.op i hlt
      have htk : sumW (ps.take (i + 1)) 0 = wrap64 (sumW (ps.take i) 0 + nodes.length) := by
        rw [List.take_succ_eq_append_getElem hlt, (List.getElem?_eq_some_iff.1 hp).2, sumW_snoc]
      have HTK := Lib.hid htk
      generalize sumW (ps.take i) 0 = sm at *
      clear hsl hp hn htk
      go_wp2_with fail
      go_roundg (ps.length - (i + 1))
      case measure => omega
      case rel => exact ⟨i + 1, by go_num, by rw [HTK.out], by omega, Nat.le_refl _, HB.out.alloc HB.out.size _⟩
    · have hltz : ¬ (i : Int) < (ps.length : Int) := by omega
      obtain rfl : i = ps.length := by omega
      rw [List.take_length]
      by_cases h3 : 300 < ps.length
      · have h3z : (300 : Int) < (ps.length : Int) := by omega
        have h3b : decide ((ps.length : Int) > 300) = true := decide_eq_true h3z
        go_wp2_with fail
        go_ret
        exact ⟨by unfold greatB; rw [if_pos h3]; rfl, HB.out⟩
      · have h3z : (ps.length : Int) ≤ 300 := by omega
        have h3b : decide ((ps.length : Int) > 300) = false := decide_eq_false (by omega)
        have hgb : greatB ps = decide (sumW ps 0 > 3000) := by unfold greatB; rw [if_neg h3]
        have HGB := Lib.hid hgb
        clear hgb
        generalize sumW ps 0 = sm at *
        go_wp2_with fail
        go_ret
        exact ⟨by rw [HGB.out]; rfl, HB.out⟩
end Go.Proofs.Ytjffaekajjokiaa
