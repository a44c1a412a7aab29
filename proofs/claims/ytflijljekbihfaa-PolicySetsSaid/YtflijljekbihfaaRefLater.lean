/-
  The reference's Before and Later: the same as the program's.
-/
import Derived.Test.YtflijljekbihfaaCmp
namespace Go.Proofs.Ytflijljekbihfaa
open Go.Shelf Go.RowKit Go.Lib Go.Sort
set_option linter.unusedVariables false
theorem refBefore_any (a b : Dot) (w : World) :
    Calls Try.prog 30 #[.agg #[.int .i64 a.node, .int .i64 a.seq], .agg #[.int .i64 b.node, .int .i64 b.seq]] w fun e w' => e = .returned (.bool (dotLt a b)) ∧ Grew w w' := by
  have hx : Hid (dotLt a b = decide (a.node < b.node ∨ (a.node = b.node ∧ a.seq < b.seq))) := rfl
  by_cases h1 : a.node < b.node
  · have hb : Hid (dotLt a b = true) := by show _ = _; rw [hx.out]; exact decide_eq_true (.inl h1)
    go_enter Try.func30, Try.ntmps30
    go_wp2
    go_ret
    exact ⟨retB hb.out.symm, ((Grew.refl _).alloc _).alloc _⟩
  · by_cases h2 : a.node = b.node
    · have hb : Hid (dotLt a b = decide (a.seq < b.seq)) := by show _ = _; rw [hx.out]; exact decide_eq_decide.2 ⟨fun h => by omega, fun h => .inr ⟨h2, h⟩⟩
      have h3 : (a.node == b.node) = true := beq_iff_eq.2 h2
      have H2 := Lib.hid h2
      have h4 : a.node ≤ b.node := by omega
      have h5 : b.node ≤ a.node := by omega
      clear h2
      go_enter Try.func30, Try.ntmps30
      go_wp2
      all_goals go_ret
      all_goals exact ⟨retB (by rw [hb.out]; try rfl), ((Grew.refl _).alloc _).alloc _⟩
    · have hb : Hid (dotLt a b = false) := by show _ = _; rw [hx.out]; exact decide_eq_false (fun h => by omega)
      have h3 : (a.node == b.node) = false := beq_eq_false_iff_ne.2 h2
      go_enter Try.func30, Try.ntmps30
      go_wp2
      go_ret
      exact ⟨retB hb.out.symm, ((Grew.refl _).alloc _).alloc _⟩
theorem refLater_any (x y : PEv) (w : World) :
    Calls Try.prog 21 #[.agg (pcells x).toArray, .agg (pcells y).toArray] w fun e w' => e = .returned (.bool (evLater x.2 y.2)) ∧ Grew w w' := by
  obtain ⟨rx, a⟩ := x
  obtain ⟨ry, b⟩ := y
  show Calls Try.prog 21 #[.agg #[.int .i64 a.dot.node, .int .i64 a.dot.seq, .int .i64 a.time, .int .i64 a.kind, .int .i64 a.work, .int .i64 a.value, .int .i64 a.pol.mn, .int .i64 a.pol.mx, .int .i64 a.pol.goal, .int .i64 a.pol.slack, .int .i64 a.pol.up, .int .i64 a.pol.down, .int .i64 a.pol.cool, rx.val], .agg #[.int .i64 b.dot.node, .int .i64 b.dot.seq, .int .i64 b.time, .int .i64 b.kind, .int .i64 b.work, .int .i64 b.value, .int .i64 b.pol.mn, .int .i64 b.pol.mx, .int .i64 b.pol.goal, .int .i64 b.pol.slack, .int .i64 b.pol.up, .int .i64 b.pol.down, .int .i64 b.pol.cool, ry.val]] w fun e w' => e = .returned (.bool (evLater a b)) ∧ Grew w w'
  generalize rx.val = vx
  generalize ry.val = vy
  have hbf := refBefore_any b.dot a.dot
  have HB := Lib.hid hbf
  clear hbf
  by_cases h1 : a.time = b.time
  · have hb : Hid (evLater a b = dotLt b.dot a.dot) := by show _ = _; unfold evLater; rw [if_pos h1]
    have h2 : (a.time != b.time) = false := by rw [bne_eq_false_iff_eq]; exact h1
    clear h1
    go_enter Try.func21, Try.ntmps21
    go_wp2_with fail
    refine (HB.out _).mono ?_
    rintro e w1 ⟨rfl, hg⟩
    have HG := Lib.hid hg
    clear hg
    go_wp2
    go_ret
    exact ⟨retB hb.out.symm, (((Grew.refl _).alloc _).alloc _).trans HG.out⟩
  · have hb : Hid (evLater a b = decide (b.time < a.time)) := by show _ = _; unfold evLater; rw [if_neg h1]
    have h2 : (a.time != b.time) = true := by rw [bne_iff_ne]; exact h1
    clear h1
    go_enter Try.func21, Try.ntmps21
    go_wp2
    go_ret
    exact ⟨retB hb.out.symm, ((Grew.refl _).alloc _).alloc _⟩
end Go.Proofs.Ytflijljekbihfaa
