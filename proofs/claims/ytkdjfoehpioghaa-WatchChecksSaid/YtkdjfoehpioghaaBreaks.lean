/-
  Breaks of the program as the document's; whether two lists of breaks are the same; great views.
-/
import Derived.Test.YtkdjfoehpioghaaViewTo
import Derived.Test.YtkdjfoehpioghaaTwo
import Derived.Deep.QuietTactic
import Derived.BigQuiet
namespace Go.Proofs.Ytkdjfoehpioghaa
open Go.Shelf Go.RowKit Go.Lib Go.Sort
set_option linter.unusedVariables false
theorem infoBreakR : (Try.prog.info? 51).map (fun i => (i.zero, i.size, i.bytes)) = some (some (.agg #[.int .i64 0, .int .i64 0]), 2, 16) := by kernel_rfl
set_option maxHeartbeats 8000000 in
theorem breaks_any (oa : Option Addr) (cap : Nat) (l : List Dot) (w : World) (h : SlAt Dot.cells w (.slice oa l.length cap) l) (hl : l.length ≤ 1000) :
    Calls Try.prog 7 #[.slice oa l.length cap] w fun e w' => ∃ o n c, e = .returned (.slice o n c) ∧ Owns Dot.cells 2 w.heap.size 51 w' (.slice o n c) l ∧ Below w.heap.size w w' := by
  have HE := Lib.hid h
  clear h
  go_enter Try.func7, Try.ntmps7
  go_wp2_with fail
  go_loopg [3, 8] l.length (fun gk s3 s8 wr => ∃ (i : Nat) (oq : Option Addr) (cq : Nat), s8 = .int .i64 i ∧ s3 = .slice oq i cq ∧ i ≤ l.length ∧ l.length - i ≤ gk ∧ Hid (Owns Dot.cells 2 w.heap.size 51 wr (.slice oq i cq) (l.take i)) ∧ Hid (Below w.heap.size w wr))
  case atStart => exact ⟨0, none, 0, rfl, rfl, Nat.zero_le _, Nat.le_refl _, Owns.nil _ _ _ _ _, Below.refl _ _⟩
  case round =>
    obtain ⟨i, oq, cq, rfl, rfl, hi, hg, HO, HB⟩ := hrel
    have hsz := HB.out.size
    by_cases hlt : i < l.length
    · have hltz : (i : Int) < (l.length : Int) := by omega
      have hsl := HE.out.below Dot.cells_len (by decide) HB.out (Nat.le_refl _)
      obtain ⟨b, off, rfl⟩ := hsl.plain Dot.cells_len (by decide) (by intro e; rw [e] at hlt; exact absurd hlt (by simp))
      obtain ⟨d, hd, c0, c1⟩ := hsl.dot i hlt
      have hln : (l.take i).length = i := by rw [List.length_take]; omega
      have htk : l.take i ++ [d] = l.take (i + 1) := by rw [List.take_add_one, hd]; rfl
      have HTK := Lib.hid htk
      have HLN := Lib.hid hln
      clear hsl hd htk hln
      go_wp2_with (at_builtin; go_loud (refine wpList_app Dot.cells 2 Dot.cells_len (by decide) Dot.cells_one _ rfl _ _ 34 rfl w.heap.size 51 _ 16 Try.underlying34 infoBreakR rfl _ (l.take i) rfl ?h1 _ [d] rfl ?h2 ?h3 ?h4 ?h5 ?_))
      case h1 => exact (HO.out.below ((Below.refl _ _).alloc (Nat.le_refl _) _) (Nat.le_refl _)).below ((Below.refl _ _).alloc (Nat.le_refl _) _) (Nat.le_refl _)
      case h2 =>
        show SlAt Dot.cells _ (.slice (some ⟨wr.heap.size + 1, 0, none⟩) 1 1) [d]
        rw [← World.size_alloc wr (.cells #[.int .i64 d.node, .int .i64 d.seq] 48)]
        exact slAt_new (enc := Dot.cells) (wr.alloc (.cells #[.int .i64 d.node, .int .i64 d.seq] 48)) #[.int .i64 d.node, .int .i64 d.seq] 51 1 1 (0, 0) [d] rfl rfl (by decide)
      case h3 => rw [HLN.out]; simp only [List.length_singleton]; omega
      case h4 => rw [HLN.out]; simp only [List.length_singleton]; omega
      case h5 => rw [World.size_alloc, World.size_alloc]; omega
      intro v' w' hown2 hg2 hv2
      rw [HTK.out] at hown2
      obtain ⟨o', c', hv'⟩ := slAt_slice hown2.at
      rw [show (l.take (i + 1)).length = i + 1 by rw [List.length_take]; omega] at hv'
      subst hv'
      have hb' : Below w.heap.size w w' := ((HB.out.alloc hsz _).alloc (by rw [World.size_alloc]; omega) _).grown hg2 (by rw [World.size_alloc, World.size_alloc]; omega) (fun k hk => (HO.out.lt k hk).1)
      have HOWN2 := Lib.hid hown2
      have HB3 := Lib.hid hb'
      clear hown2 hg2 hv2 hb' c0 c1 HTK
      go_wp2_with fail
      go_roundg (l.length - (i + 1))
      case measure => omega
      case rel => exact ⟨i + 1, o', c', by go_num, rfl, by omega, Nat.le_refl _, HOWN2.out, HB3.out⟩
    · have hltz : ¬ (i : Int) < (l.length : Int) := by omega
      obtain rfl : i = l.length := by omega
      go_wp2_with fail
      go_ret
      exact ⟨oq, l.length, cq, rfl, (by have h := HO.out; rw [List.take_length] at h; exact h), HB.out⟩
set_option maxHeartbeats 8000000 in
theorem sameB_any (oa ob : Option Addr) (ca cb : Nat) (ds : List Dot) (w : World) (h1 : SlAt Dot.cells w (.slice oa ds.length ca) ds) (h2 : SlAt Dot.cells w (.slice ob ds.length cb) ds) (hl : ds.length ≤ 1000) :
    Calls Try.prog 6 #[.slice oa ds.length ca, .slice ob ds.length cb] w fun e w' => e = .returned (.bool true) ∧ Grew w w' := by
  have H1 := Lib.hid h1
  have H2 := Lib.hid h2
  clear h1 h2
  go_enter Try.func6, Try.ntmps6
  go_wp2_with fail
  go_loopg [13] ds.length (fun gk s13 wr => ∃ (i : Nat) (q : Nat), s13 = .int .i64 i ∧ i ≤ ds.length ∧ ds.length - i ≤ gk ∧ wr = w.drewN q)
  case atStart => exact ⟨0, 0, rfl, Nat.zero_le _, Nat.le_refl _, rfl⟩
  case round =>
    obtain ⟨i, q, rfl, hi, hg, rfl⟩ := hrel
    by_cases hlt : i < ds.length
    · have hltz : (i : Int) < (ds.length : Int) := by omega
      obtain ⟨b, off, rfl⟩ := H1.out.plain Dot.cells_len (by decide) (by intro e; rw [e] at hlt; exact absurd hlt (by simp))
      obtain ⟨b2, off2, rfl⟩ := H2.out.plain Dot.cells_len (by decide) (by intro e; rw [e] at hlt; exact absurd hlt (by simp))
      obtain ⟨d, hd, c0, c1⟩ := H1.out.dot i hlt
      obtain ⟨d2, hd2, k0, k1⟩ := H2.out.dot i hlt
      obtain rfl : d = d2 := by rw [hd] at hd2; exact Option.some.inj hd2
      clear hd hd2
      go_wp2_with fail
      go_quiet (fail)
      go_wp2_with fail
      go_roundg (ds.length - (i + 1))
      case measure => omega
      case rel => exact ⟨i + 1, q + nq, by go_num, by omega, Nat.le_refl _, rfl⟩
    · have hltz : ¬ (i : Int) < (ds.length : Int) := by omega
      obtain rfl : i = ds.length := by omega
      go_wp2_with fail
      go_ret
      exact ⟨rfl, q, #[], by rw [grow_empty]⟩
end Go.Proofs.Ytkdjfoehpioghaa
