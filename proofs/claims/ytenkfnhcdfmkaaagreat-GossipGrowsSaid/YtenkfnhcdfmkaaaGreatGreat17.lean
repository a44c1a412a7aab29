/-
  Is a message more than is looked at? The reference's Great.
-/
import Derived.Test.YtenkfnhcdfmkaaaGreatMsgP
import Derived.Test.YtenkfnhcdfmkaaaGreatRef07
namespace Go.Proofs.YtenkfnhcdfmkaaaGreat
open Go.Shelf Go.RowKit Go.Lib Go.Sort
set_option linter.unusedVariables false
set_option linter.unusedSimpArgs false
def Msg.great (m : Msg) : Prop := 1000 < m.more.length ∨ 1000 < m.ms.length ∨ 3000 < bulk (m.evs.map (·.2))
instance (m : Msg) : Decidable m.great := by unfold Msg.great; infer_instance
theorem Msg.small_of {m : Msg} (h : ¬ m.great) : m.small := by
 unfold Msg.great at h
 have hb : bulk (m.evs.map (·.2)) ≤ 3000 := by omega
 have hl := bulk_len (m.evs.map (·.2))
 rw [List.length_map] at hl
 exact ⟨by omega, by omega, by omega, fun p hp => Nat.le_trans (bulk_mem _ _ (List.mem_map.2 ⟨p, hp, rfl⟩)) hb⟩
structure Msg.fits (m : Msg) : Prop where
 more : m.more.length ≤ 8796093022208
 ms : m.ms.length ≤ 8796093022208
 evs : m.evs.length ≤ 1099511627776
 rems : ∀ p ∈ m.evs, p.2.rem.length ≤ 8796093022208
set_option maxHeartbeats 4000000 in
theorem great17_any (m : Msg) (w : World) (h : MsgIn w m) (hf : m.fits) : Calls Tryz.prog 30 #[.agg m.cells.toArray] w fun e w' => e = .returned (.bool (decide m.great)) ∧ Below w.heap.size w w' := by
 obtain ⟨kind, frm, to_, seq, node, u, more, evs, ms, ⟨ma, mn, mc⟩, ⟨ea, en, ec⟩, ⟨sa, sn, sc⟩⟩ := m
 obtain ⟨h1, h2, h3⟩ := h
 obtain ⟨f1, f2, f3, f4⟩ := hf
 simp only [Hdr.val] at h1 h2 h3
 obtain rfl : mn = more.length := by obtain ⟨_, _, hv, _⟩ := h1.slice_of; simp only [Value.slice.injEq] at hv; exact hv.2.1
 obtain rfl : sn = ms.length := by obtain ⟨_, _, hv, _⟩ := h3.slice_of; simp only [Value.slice.injEq] at hv; exact hv.2.1
 obtain rfl : en = evs.length := by obtain ⟨_, _, hv, _⟩ := h2.1.slice_of; simp only [Value.slice.injEq] at hv; exact hv.2.1
 show Calls Tryz.prog 30 #[.agg #[.int .i64 kind, .int .i64 frm, .int .i64 to_, .int .i64 seq, .int .i64 node, .int .i64 (u 0), .int .i64 (u 1), .int .i64 (u 2), .int .i64 (u 3), .int .i64 (u 4), .int .i64 (u 5), .int .i64 (u 6), .int .i64 (u 7), .slice ma more.length mc, .slice ea evs.length ec, .slice sa ms.length sc]] w _
 have hb : Below w.heap.size w (w.alloc (.cells #[.int .i64 kind, .int .i64 frm, .int .i64 to_, .int .i64 seq, .int .i64 node, .int .i64 (u 0), .int .i64 (u 1), .int .i64 (u 2), .int .i64 (u 3), .int .i64 (u 4), .int .i64 (u 5), .int .i64 (u 6), .int .i64 (u 7), .slice ma more.length mc, .slice ea evs.length ec, .slice sa ms.length sc] 38)) := (Below.refl _ _).alloc (Nat.le_refl _) _
 have hgr := great_any ea ec evs _ (h2.below hb (Nat.le_refl _)) f3 f4
 have HGR := Lib.hid hgr
 have HB := Lib.hid hb
 have e0 : decide (Msg.great ⟨kind, frm, to_, seq, node, u, more, evs, ms, ⟨ma, more.length, mc⟩, ⟨ea, evs.length, ec⟩, ⟨sa, ms.length, sc⟩⟩) = (decide ((1000 : Int) < (more.length : Int)) || (decide ((1000 : Int) < (ms.length : Int)) || decide (3000 < bulk (evs.map (·.2))))) := by
  unfold Msg.great
  by_cases a : 1000 < more.length
  ·have : (1000 : Int) < (more.length : Int) := by omega
   simp [a, this]
  ·have a' : ¬ (1000 : Int) < (more.length : Int) := by omega
   by_cases b : 1000 < ms.length
   ·have : (1000 : Int) < (ms.length : Int) := by omega
    simp [a, b, this]
   ·have b' : ¬ (1000 : Int) < (ms.length : Int) := by omega
    simp [a, b, a', b']
 rw [e0]
 clear e0 h1 h2 h3 f1 f2 f3 f4 hgr hb
 generalize decide (3000 < bulk (evs.map (·.2))) = bb at *
 by_cases hmore : (1000 : Int) < (more.length : Int)
 ·rw [decide_eq_true hmore]
  go_enter Tryz.func30, Tryz.ntmps30
  go_wp2_with fail
  go_ret
  exact ⟨rfl, HB.out⟩
 ·by_cases hms : (1000 : Int) < (ms.length : Int)
  ·rw [decide_eq_false hmore, decide_eq_true hms]
   go_enter Tryz.func30, Tryz.ntmps30
   go_wp2_with fail
   go_ret
   exact ⟨rfl, HB.out⟩
  ·rw [decide_eq_false hmore, decide_eq_false hms]
   go_enter Tryz.func30, Tryz.ntmps30
   go_wp2_with fail
   refine HGR.out.mono ?_
   rintro e w' ⟨rfl, hb'⟩
   have HB' := Lib.hid (HB.out.trans (hb'.mono HB.out.size))
   clear hb' HGR HB
   go_wp2_with fail
   go_ret
   exact ⟨by simp, HB'.out⟩
end Go.Proofs.YtenkfnhcdfmkaaaGreat
