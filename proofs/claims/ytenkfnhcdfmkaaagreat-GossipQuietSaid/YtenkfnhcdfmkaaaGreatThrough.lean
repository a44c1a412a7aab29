/-
  An event's numbers, one behind the other.
-/
import Derived.Test.YtenkfnhcdfmkaaaGreatMWhole
import Derived.Test.YtenkfnhcdfmkaaaGreatMDotP
import Derived.BigQuiet
import Derived.Deep.QuietTactic
namespace Go.Proofs.YtenkfnhcdfmkaaaGreat
open Go.RowKit Go.Lib
set_option linter.unusedVariables false
set_option linter.unusedSimpArgs false
def vl (n : Int) : Nat := vlen n.toNat
def polLen (p : Pol) : Nat := vl p.mn + vl p.mx + vl p.goal + vl p.slack + vl p.up + vl p.down + vl p.cool
def remLen : List Dot → Nat
 | [] => 0
 | d :: l => vl d.node + vl d.seq + remLen l
def evLen (e : Ev) : Nat := vl e.dot.node + vl e.dot.seq + vl e.time + vl e.kind + vl e.work + (if e.kind = 1 then vl e.value else (if e.kind = 2 then polLen e.pol else 0) + vl e.rem.length + remLen e.rem)
theorem vl_le (n : Int) : vl n ≤ 6 := vlen_le _
def polTo (p : Pol) : Nat → Nat
 | 0 => 0
 | 1 => vl p.mn
 | 2 => vl p.mn + vl p.mx
 | 3 => vl p.mn + vl p.mx + vl p.goal
 | 4 => vl p.mn + vl p.mx + vl p.goal + vl p.slack
 | 5 => vl p.mn + vl p.mx + vl p.goal + vl p.slack + vl p.up
 | 6 => vl p.mn + vl p.mx + vl p.goal + vl p.slack + vl p.up + vl p.down
 | _ => polLen p
theorem polTo_le (p : Pol) (i : Nat) : polTo p i ≤ 42 := by
 have h1 := vl_le p.mn
 have h2 := vl_le p.mx
 have h3 := vl_le p.goal
 have h4 := vl_le p.slack
 have h5 := vl_le p.up
 have h6 := vl_le p.down
 have h7 := vl_le p.cool
 unfold polTo
 split
 all_goals first | omega | (unfold polLen; omega)
set_option maxRecDepth 100000 in
set_option maxHeartbeats 4000000 in
theorem policy_any (eb wb : Nat) (hd : Hdr) (ev : Ev) (l : List Int) (W : World) (hW : WAt W wb l) (hE : W.heap[eb]? = some (.cells (pcells (hd, ev)).toArray 44)) (hne : eb ≠ wb) (hr : PolRight ev.pol) (hl : l.length ≤ 800000) :
  Calls Tryz.prog 189 #[.pointer (some ⟨eb, 6, none⟩), .func (Fn.method "murmur/event.number") #[.iface 233 (.pointer (some ⟨wb, 0, none⟩))] #[]] W fun e w' => e = .returned (.tuple #[]) ∧ ∃ bs, bs.length = polLen ev.pol ∧ WAt w' wb (l ++ bs) ∧ Touch (fun k => k = wb) W w' := by
 have hp : Tryz.prog.follows .mixedOrders = true := by kernel_rfl
 obtain ⟨q1, q2, q3, q4, q5, q6⟩ := hr
 have hgl : eb < W.heap.size := (Array.getElem?_eq_some_iff.1 hE).1
 have HCE : Hid (∀ W' : World, Touch (fun k => k = wb) W W' → W'.heap[eb]? = some (.cells (pcells (hd, ev)).toArray 44)) := fun W' hT => (hT.block eb hgl hne).trans hE
 have HWA := Lib.hid hW
 clear hW hE
 go_enter Tryz.func189, Tryz.ntmps189
 go_step
 go_step
 go_cut [27, 28] (fun s27 s28 wx => s27 = .agg #[.pointer (some ⟨eb, 6, none⟩), .pointer (some ⟨eb, 7, none⟩), .pointer (some ⟨eb, 8, none⟩), .pointer (some ⟨eb, 9, none⟩), .pointer (some ⟨eb, 10, none⟩), .pointer (some ⟨eb, 11, none⟩), .pointer (some ⟨eb, 12, none⟩)] ∧ s28 = .int .i64 0 ∧ Hid (∃ n, wx = W.drewN n))
 case first =>
  go_big_quiet (fail)
  go_wp2_with fail
  go_meet
  exact ⟨rfl, rfl, ⟨nq, rfl⟩⟩
 case rest =>
  obtain ⟨rfl, rfl, HN⟩ := hcut
  obtain ⟨nq, hnq⟩ := HN.out
  have HT1 : Hid (Touch (fun k => k = wb) W wc) := by rw [hnq]; exact Touch.of_below (below_drewN W nq) (Nat.le_refl _)
  have HW1 : Hid (WAt wc wb l) := by rw [hnq]; exact HWA.out
  clear hnq HN HWA
  go_wp2_with fail
  go_loopg [5, 28] 7 (fun gk s5 s28 wr => ∃ (i : Nat) (bs : List Int), s28 = .int .i64 i ∧ i ≤ 7 ∧ 7 - i ≤ gk ∧ bs.length = polTo ev.pol i ∧ Hid (WAt wr wb (l ++ bs)) ∧ Hid (Touch (fun k => k = wb) W wr))
  case atStart => exact ⟨0, [], rfl, Nat.zero_le _, Nat.le_refl _, rfl, by rw [List.append_nil]; exact HW1.out, HT1.out⟩
  case round =>
   obtain ⟨i, bs, rfl, hi, hgk, hbs, HW, HT⟩ := hrel
   by_cases hlt : i < 7
   ·have hr0 := HCE.out wr HT.out
    obtain ⟨j, n, hj, hn0, hn1, hjn, hix⟩ : ∃ (j : Nat) (n : Int), (wr.cell? ⟨eb, j, none⟩ = some (.int .i64 n)) ∧ 0 ≤ n ∧ n ≤ 1099511627776 ∧ bs.length + vl n = polTo ev.pol (i + 1) ∧ (Instr.index 249 (.agg #[.pointer (some ⟨eb, 6, none⟩), .pointer (some ⟨eb, 7, none⟩), .pointer (some ⟨eb, 8, none⟩), .pointer (some ⟨eb, 9, none⟩), .pointer (some ⟨eb, 10, none⟩), .pointer (some ⟨eb, 11, none⟩), .pointer (some ⟨eb, 12, none⟩)]) (.int .i64 i)).run Tryz.prog wr = .ok (.pointer (some ⟨eb, j, none⟩)) wr := by
     rcases (show i = 0 ∨ i = 1 ∨ i = 2 ∨ i = 3 ∨ i = 4 ∨ i = 5 ∨ i = 6 by omega) with rfl | rfl | rfl | rfl | rfl | rfl | rfl
     ·exact ⟨6, ev.pol.mn, cell_of_row wr _ 6 _ _ _ hr0, by omega, by omega, by rw [hbs]; simp [polTo], rfl⟩
     ·exact ⟨7, ev.pol.mx, cell_of_row wr _ 7 _ _ _ hr0, by omega, by omega, by rw [hbs]; simp [polTo], rfl⟩
     ·exact ⟨8, ev.pol.goal, cell_of_row wr _ 8 _ _ _ hr0, by omega, by omega, by rw [hbs]; simp [polTo], rfl⟩
     ·exact ⟨9, ev.pol.slack, cell_of_row wr _ 9 _ _ _ hr0, by omega, by omega, by rw [hbs]; simp [polTo], rfl⟩
     ·exact ⟨10, ev.pol.up, cell_of_row wr _ 10 _ _ _ hr0, by omega, by omega, by rw [hbs]; simp [polTo], rfl⟩
     ·exact ⟨11, ev.pol.down, cell_of_row wr _ 11 _ _ _ hr0, by omega, by omega, by rw [hbs]; simp [polTo], rfl⟩
     ·exact ⟨12, ev.pol.cool, cell_of_row wr _ 12 _ _ _ hr0, by omega, by omega, by rw [hbs]; simp [polTo, polLen], rfl⟩
    have hltz : (i : Int) < 7 := by omega
    have h42 := polTo_le ev.pol i
    have hnu := number_any wb (l ++ bs) ⟨eb, j, none⟩ n wr HW.out hj hn0 hn1 (by rw [List.length_append]; omega) (Array.getElem?_eq_some_iff.1 hr0).1
    have HNU := Lib.hid hnu
    have HJN := Lib.hid hjn
    clear hnu hr0 hjn hbs
    go_wp2_with fail
    refine HNU.out.mono ?_
    rintro e w2 ⟨rfl, b2, hb2, hW2, hT2⟩
    have HW2 : Hid (WAt w2 wb (l ++ (bs ++ b2))) := by rw [← List.append_assoc]; exact hW2
    have HT2 := Lib.hid (HT.out.trans hT2 fun _ _ h => h)
    have HB2 : Hid ((bs ++ b2).length = polTo ev.pol (i + 1)) := by
     show (bs ++ b2).length = _
     rw [List.length_append, hb2]
     exact HJN.out
    clear hW2 hT2 hb2 HNU HJN hix hj
    generalize bs ++ b2 = b3 at *
    go_wp2_with fail
    go_roundg (7 - (i + 1))
    case measure => omega
    case rel => exact ⟨i + 1, b3, by go_num, by omega, Nat.le_refl _, HB2.out, HW2.out, HT2.out⟩
   ·have hltz : ¬ (i : Int) < 7 := by omega
    obtain rfl : i = 7 := by omega
    go_wp2_with fail
    go_end0
    exact ⟨rfl, bs, hbs, HW.out, HT.out⟩
end Go.Proofs.YtenkfnhcdfmkaaaGreat
