/-
  The first of an order: rank.Owner and the reference's; whether two rows hold the same numbers; what the law's own examples come to.
-/
import Derived.Test.YtlohmmhdfabjiaaRefOrder
namespace Go.Proofs.Ytlohmmhdfabjiaa
open Go.Shelf Go.RowKit Go.Lib Go.Sort
set_option linter.unusedVariables false
def own : List Int → Int × Int
  | [] => (0, 8)
  | x :: _ => (x, 0)
def OwnerPost (nodes : List Int) (work salt : Int) (w : World) (e : Ending) (w' : World) : Prop :=
  ∃ l, Ranks (fun n => weightI n work salt) nodes l ∧ e = .returned (.tuple #[.int .i64 (own l).1, .int .i64 (own l).2]) ∧ Below w.heap.size w w'
set_option maxHeartbeats 2000000 in
theorem owner_any (oa : Option Addr) (cap : Nat) (nodes : List Int) (work salt : Int) (h0 : 0 ≤ salt) (h1 : salt < 18446744073709551616) (w : World) (h : SlAt icells w (.slice oa nodes.length cap) nodes) (hl : nodes.length ≤ 1000000) :
    Calls Try.prog 10 #[.slice oa nodes.length cap, .int .i64 work, .int .u64 salt] w (OwnerPost nodes work salt w) := by
  have ho := order_any oa cap nodes work salt h0 h1 w h hl
  have HO := Lib.hid ho
  clear ho h
  go_enter Try.func10, Try.ntmps10
  go_wp2_with fail
  refine HO.out.mono ?_
  rintro e w1 ⟨oq, cq, l, rfl, hr, hs, hb⟩
  cases l with
  | nil =>
    have HR := Lib.hid hr
    have HB := Lib.hid hb
    clear hr hs hb HO
    simp only [List.length_nil]
    go_wp2_with fail
    go_ret2
    exact ⟨[], HR.out, rfl, HB.out⟩
  | cons x l =>
    obtain ⟨b, off, rfl⟩ := hs.plain icells_len (by decide) (by simp)
    have c0 : w1.cell? ⟨b, off, none⟩ = some (.int .i64 x) := by
      have := hs.cell icells_len (i := 0) (c := 0) (by simp) (by decide)
      simpa [icells] using this
    have len0 : (((x :: l).length : Int) == 0) = false := by first | (simp; done) | (simp; omega)
    have lenz : (0 : Int) < ((x :: l).length : Int) := by first | (simp; done) | (simp; omega)
    have HR := Lib.hid hr
    have HB := Lib.hid hb
    clear hr hs hb HO
    generalize hlen : (x :: l).length = n at *
    go_wp2_with fail
    go_ret2
    exact ⟨x :: l, HR.out, rfl, HB.out⟩
set_option maxHeartbeats 2000000 in
theorem refOwner_any (oa : Option Addr) (cap : Nat) (nodes : List Int) (work salt : Int) (h0 : 0 ≤ salt) (h1 : salt < 18446744073709551616) (w : World) (h : SlAt icells w (.slice oa nodes.length cap) nodes) (hl : nodes.length ≤ 1000000) :
    Calls Try.prog 11 #[.slice oa nodes.length cap, .int .i64 work, .int .u64 salt] w (OwnerPost nodes work salt w) := by
  have ho := refOrder_any oa cap nodes work salt h0 h1 w h hl
  have HO := Lib.hid ho
  clear ho h
  go_enter Try.func11, Try.ntmps11
  go_wp2_with fail
  refine HO.out.mono ?_
  rintro e w1 ⟨oq, cq, l, rfl, hr, hs, hb⟩
  cases l with
  | nil =>
    have HR := Lib.hid hr
    have HB := Lib.hid hb
    clear hr hs hb HO
    simp only [List.length_nil]
    go_wp2_with fail
    go_ret2
    exact ⟨[], HR.out, rfl, HB.out⟩
  | cons x l =>
    obtain ⟨b, off, rfl⟩ := hs.plain icells_len (by decide) (by simp)
    have c0 : w1.cell? ⟨b, off, none⟩ = some (.int .i64 x) := by
      have := hs.cell icells_len (i := 0) (c := 0) (by simp) (by decide)
      simpa [icells] using this
    have len0 : (((x :: l).length : Int) == 0) = false := by first | (simp; done) | (simp; omega)
    have lenz : (0 : Int) < ((x :: l).length : Int) := by first | (simp; done) | (simp; omega)
    have HR := Lib.hid hr
    have HB := Lib.hid hb
    clear hr hs hb HO
    generalize hlen : (x :: l).length = n at *
    go_wp2_with fail
    go_ret2
    exact ⟨x :: l, HR.out, rfl, HB.out⟩
set_option maxHeartbeats 2000000 in
theorem ints_any (oa ob : Option Addr) (ca cb : Nat) (l : List Int) (w : World) (ha : SlAt icells w (.slice oa l.length ca) l) (hb : SlAt icells w (.slice ob l.length cb) l) (hl : l.length ≤ 1000000) :
    Calls Try.prog 9 #[.slice oa l.length ca, .slice ob l.length cb] w fun e w' => e = .returned (.bool true) ∧ ∃ q, w' = w.drewN q := by
  have HA := Lib.hid ha
  have HB := Lib.hid hb
  clear ha hb
  go_enter Try.func9, Try.ntmps9
  go_wp2_with fail
  go_loopg [5, 13] l.length (fun gk s5 s13 wr => ∃ (i q : Nat), s13 = .int .i64 i ∧ i ≤ l.length ∧ l.length - i ≤ gk ∧ wr = w.drewN q)
  case atStart => exact ⟨0, 0, rfl, Nat.zero_le _, Nat.le_refl _, rfl⟩
  case round =>
    obtain ⟨i, q, rfl, hi, hg, rfl⟩ := hrel
    by_cases hlt : i < l.length
    · have hltz : (i : Int) < (l.length : Int) := by omega
      have hsa := HA.out
      have hsb := HB.out
      obtain ⟨b1, off1, rfl⟩ := hsa.plain icells_len (by decide) (by intro e; rw [e] at hlt; exact absurd hlt (by simp))
      obtain ⟨b2, off2, rfl⟩ := hsb.plain icells_len (by decide) (by intro e; rw [e] at hlt; exact absurd hlt (by simp))
      have c1 : w.cell? ⟨b1, off1 + i, none⟩ = some (.int .i64 (l[i]'hlt)) := by
        have := hsa.cell icells_len (i := i) (c := 0) hlt (by decide)
        simpa [icells] using this
      have c2 : w.cell? ⟨b2, off2 + i, none⟩ = some (.int .i64 (l[i]'hlt)) := by
        have := hsb.cell icells_len (i := i) (c := 0) hlt (by decide)
        simpa [icells] using this
      generalize l[i]'hlt = y at c1 c2
      clear hsa hsb
      go_wp2_with fail
      go_quiet (fail)
      go_wp2_with fail
      go_roundg (l.length - (i + 1))
      case measure => omega
      case rel => exact ⟨i + 1, q + nq, by go_num, by omega, Nat.le_refl _, by first | rfl | exact World.drewN_drewN _ _ _⟩
    · have hltz : ¬ (i : Int) < (l.length : Int) := by omega
      go_wp2_with fail
      go_ret
      exact ⟨rfl, q, rfl⟩
theorem ranks_one {wt : Int → Int} {l out : List Int} {x : Int} (h : Ranks wt l out) (ht : there l = [x]) : out = [x] := by
  have := h.perm
  rw [ht] at this
  exact List.perm_singleton.1 this
set_option maxRecDepth 100000 in
set_option maxHeartbeats 2000000 in
theorem alive_any (w : World) : Calls Try.prog 7 #[] w fun e w' => e = .returned (.bool true) ∧ Below w.heap.size w w' := by
  have hn := owner_any none 0 [] 0 0 (by decide) (by decide) w (SlAt.nil _ _) (by decide)
  have HN := Lib.hid hn
  clear hn
  go_enter Try.func7, Try.ntmps7
  go_wp2_with fail
  refine HN.out.mono ?_
  rintro e w1 ⟨l1, hr1, rfl, hb1⟩
  have e1 : l1 = [] := by
    have := hr1.perm
    exact List.perm_nil.1 this
  subst e1
  have HB1 := Lib.hid hb1
  clear hr1 hb1 HN
  simp only [own]
  have h2 := owner_any (some ⟨w1.heap.size, 0, none⟩) 3 [3, -1, 8] 0 0 (by decide) (by decide) (w1.alloc (.cells #[.int .i64 3, .int .i64 (-1), .int .i64 8] 3)) (slAt_new _ _ _ _ _ _ _ rfl rfl (by decide)) (by decide)
  have H2 := Lib.hid h2
  clear h2
  go_wp2_with fail
  refine H2.out.mono ?_
  rintro e w2 ⟨l2, hr2, rfl, hb2⟩
  have e2 : l2 = [3] := ranks_one hr2 rfl
  subst e2
  have HB2 := Lib.hid (HB1.out.trans (((Below.refl _ _).alloc (Nat.le_refl _) (.cells #[.int .i64 3, .int .i64 (-1), .int .i64 8] 3)).trans (hb2.mono (by simp)) |>.mono HB1.out.size))
  clear hr2 hb2 H2 HB1
  simp only [own]
  have h3 := order_any (some ⟨w2.heap.size, 0, none⟩) 3 [1, 2, 1] 0 0 (by decide) (by decide) (w2.alloc (.cells #[.int .i64 1, .int .i64 2, .int .i64 1] 3)) (slAt_new _ _ _ _ _ _ _ rfl rfl (by decide)) (by decide)
  have H3 := Lib.hid h3
  clear h3
  go_wp2_with fail
  refine H3.out.mono ?_
  rintro e w3 ⟨o3, c3, l3, rfl, hr3, hs3, hb3⟩
  have e3 : l3.length = 2 := hr3.perm.length_eq
  have HB3 := Lib.hid (HB2.out.trans (((Below.refl _ _).alloc (Nat.le_refl _) (.cells #[.int .i64 1, .int .i64 2, .int .i64 1] 3)).trans (hb3.mono (by simp)) |>.mono HB2.out.size))
  rw [e3]
  clear hr3 hs3 hb3 H3 HB2 e3
  go_wp2_with fail
  go_ret
  exact ⟨rfl, HB3.out⟩
end Go.Proofs.Ytlohmmhdfabjiaa
