/-
  Whether a message may be: msg.Right.
  Whether a message may be: msg.Right walked.
-/
import Derived.Test.YtenkfnhcdfmkaaaGreatMMsgA
import Derived.Test.YtenkfnhcdfmkaaaGreatMStep
import Derived.Laws.EntriesVeiled
import Derived.Deep.DeepCutAuto
import Derived.Shelf.Abstract
namespace Go.Proofs.YtenkfnhcdfmkaaaGreat
open Go.Shelf Go.RowKit Go.Lib Go.Sort
set_option linter.unusedVariables false
set_option linter.unusedSimpArgs false
def askF (i : Nat) : Nat := 44 + i
noncomputable instance Msg.decSeq (m : Msg) : Decidable m.seqOk := Classical.propDecidable _
noncomputable instance Msg.decNode (m : Msg) : Decidable m.nodeOk := Classical.propDecidable _
noncomputable instance Msg.decSeen (m : Msg) : Decidable m.seenOk := Classical.propDecidable _
noncomputable instance Msg.decEvs (m : Msg) : Decidable m.evsOk := Classical.propDecidable _
noncomputable def askB (m : Msg) (i : Nat) : Bool := if i = 0 then decide m.seqOk else if i = 1 then decide m.nodeOk else if i = 2 then decide m.seenOk else decide m.evsOk
theorem partsV_is (k : Int) (h : 1 ≤ k ∧ k ≤ 5) : partsV k = #[.bool (decide (k ≠ 5)), .bool (decide (k = 2 ∨ k = 3)), .bool (decide (k = 4)), .bool (decide (k = 5))] := by
 rcases (show k = 1 ∨ k = 2 ∨ k = 3 ∨ k = 4 ∨ k = 5 by omega) with rfl | rfl | rfl | rfl | rfl <;> rfl
theorem ask_any (m : Msg) (hk : 1 ≤ m.kind ∧ m.kind ≤ 5) (hs : m.small) (i : Nat) (hi : i < 4) (w : World) (h : MsgIn w m) : Calls Tryz.prog (askF i) #[.agg (partsV m.kind), .agg #[.int .i64 m.kind, .int .i64 m.frm, .int .i64 m.to_, .int .i64 m.seq, .int .i64 m.node, .int .i64 (m.u 0), .int .i64 (m.u 1), .int .i64 (m.u 2), .int .i64 (m.u 3), .int .i64 (m.u 4), .int .i64 (m.u 5), .int .i64 (m.u 6), .int .i64 (m.u 7), m.hm.val, m.he.val, m.hs.val]] w fun en w' => en = .returned (.bool (askB m i)) ∧ Below w.heap.size w w' := by
 rw [partsV_is _ hk]
 rcases (show i = 0 ∨ i = 1 ∨ i = 2 ∨ i = 3 by omega) with rfl | rfl | rfl | rfl
 ·have := askSeq_any (decide (m.kind ≠ 5)) (decide (m.kind = 2 ∨ m.kind = 3)) (decide (m.kind = 4)) (decide (m.kind = 5)) m w
  have e : decide (0 ≤ m.seq ∧ m.seq ≤ if decide (m.kind = 4) = true then 1 else if decide (m.kind ≠ 5) = true then 1099511627776 else 0) = askB m 0 := by
   unfold askB
   rw [if_pos rfl, decide_eq_decide]
   unfold Msg.seqOk seqMost
   rcases (show m.kind = 1 ∨ m.kind = 2 ∨ m.kind = 3 ∨ m.kind = 4 ∨ m.kind = 5 by omega) with e | e | e | e | e <;> simp [e]
  rw [e] at this
  exact this
 ·have := askNode_any (decide (m.kind ≠ 5)) (decide (m.kind = 2 ∨ m.kind = 3)) (decide (m.kind = 4)) (decide (m.kind = 5)) m w
  have e : (decide (m.kind = 2 ∨ m.kind = 3) && decide (0 ≤ m.node ∧ m.node ≤ 7) || decide (m.node = 0)) = askB m 1 := by
   unfold askB
   rw [if_neg (by decide), if_pos rfl, Bool.eq_iff_iff, Bool.or_eq_true, Bool.and_eq_true, decide_eq_true_iff, decide_eq_true_iff, decide_eq_true_iff, decide_eq_true_iff]
   unfold Msg.nodeOk
   exact Iff.rfl
  rw [e] at this
  exact this
 ·have := askSeen_any (decide (m.kind ≠ 5)) (decide (m.kind = 2 ∨ m.kind = 3)) (decide (m.kind = 4)) (decide (m.kind = 5)) m w h hs
  have e : seenB (decide (m.kind = 4)) m = askB m 2 := by
   unfold askB
   rw [if_neg (by decide), if_neg (by decide), if_pos rfl]
   unfold Msg.seenOk seenB
   by_cases e : m.kind = 4
   ·simp only [e, decide_true, if_true]
    by_cases hr : m.set.Right
    ·rw [DSet.rightB_true hr]; simp [hr, e]
    ·rw [DSet.rightB_false hr]; simp [hr, e]
   ·simp only [e, decide_false, if_false, Bool.false_eq_true]
    rw [Bool.eq_iff_iff, Bool.and_eq_true, decide_eq_true_iff, decide_eq_true_iff, decide_eq_true_iff]
  rw [e] at this
  exact this
 ·by_cases e : m.kind = 5
  ·have := askEvents_some (decide (m.kind ≠ 5)) (decide (m.kind = 2 ∨ m.kind = 3)) (decide (m.kind = 4)) m w h hs
   rw [show decide (m.kind = 5) = true from decide_eq_true e]
   have e2 : evsB m = askB m 3 := by
    unfold askB evsB
    rw [if_neg (by decide), if_neg (by decide), if_neg (by decide)]
    exact decide_eq_decide.2 (by unfold Msg.evsOk; rw [if_pos e])
   rw [e2] at this
   exact this
  ·have := askEvents_none (decide (m.kind ≠ 5)) (decide (m.kind = 2 ∨ m.kind = 3)) (decide (m.kind = 4)) m w h hs
   rw [show decide (m.kind = 5) = false from decide_eq_false e]
   have e2 : decide (m.evs.length = 0) = askB m 3 := by
    unfold askB
    rw [if_neg (by decide), if_neg (by decide), if_neg (by decide)]
    exact decide_eq_decide.2 (by unfold Msg.evsOk; rw [if_neg e])
   rw [e2] at this
   exact this
def AskTo (m : Msg) (i : Nat) : Prop := ∀ k, k < i → askB m k = true
theorem askTo_step {m : Msg} {i : Nat} (h : AskTo m i) (h1 : askB m i = true) : AskTo m (i + 1) := fun k hk => by
 by_cases e : k = i
 ·rw [e]; exact h1
 ·exact h k (by omega)
theorem askTo_right {m : Msg} (h : AskTo m 4) (hk : 1 ≤ m.kind ∧ m.kind ≤ 5) (hf : 0 ≤ m.frm ∧ m.frm ≤ 7) (ht : 0 ≤ m.to_ ∧ m.to_ ≤ 7) (hne : m.frm ≠ m.to_) (hm : MsOk m.ms) : m.right := by
 have h0 := h 0 (by decide)
 have h1 := h 1 (by decide)
 have h2 := h 2 (by decide)
 have h3 := h 3 (by decide)
 unfold askB at h0 h1 h2 h3
 rw [if_pos rfl] at h0
 rw [if_neg (by decide), if_pos rfl] at h1
 rw [if_neg (by decide), if_neg (by decide), if_pos rfl] at h2
 rw [if_neg (by decide), if_neg (by decide), if_neg (by decide)] at h3
 exact ⟨hk, hf, ht, hne, hm, of_decide_eq_true h0, of_decide_eq_true h1, of_decide_eq_true h2, of_decide_eq_true h3⟩
theorem right_ask {m : Msg} (h : m.right) (i : Nat) : askB m i = true := by
 unfold askB
 split
 ·exact decide_eq_true h.seq
 ·split
  ·exact decide_eq_true h.node
  ·split
   ·exact decide_eq_true h.seen
   ·exact decide_eq_true h.evs
end Go.Proofs.YtenkfnhcdfmkaaaGreat
namespace Go.Proofs.YtenkfnhcdfmkaaaGreat
open Go.Shelf Go.RowKit Go.Lib Go.Sort
set_option linter.unusedVariables false
set_option linter.unusedSimpArgs false
theorem ask_index (i : Nat) (hi : i < 4) (w : World) : (Instr.index 106 (.agg #[.func (.func 44) #[] #[], .func (.func 45) #[] #[], .func (.func 46) #[] #[], .func (.func 47) #[] #[]]) (.int .i64 i)).run Tryz.prog w = .ok (.func (.func (askF i)) #[] #[]) w := by
 rcases (show i = 0 ∨ i = 1 ∨ i = 2 ∨ i = 3 by omega) with rfl | rfl | rfl | rfl <;> kernel_rfl
theorem ask_enter (i : Nat) (hi : i < 4) : ∀ args w, (callFunc (askF i) args).run Tryz.prog w = .ok (.enter (askF i) args) w := by
 rcases (show i = 0 ∨ i = 1 ∨ i = 2 ∨ i = 3 by omega) with rfl | rfl | rfl | rfl
 ·exact enters_of Tryz.func44 (by kernel_rfl) rfl
 ·exact enters_of Tryz.func45 (by kernel_rfl) rfl
 ·exact enters_of Tryz.func46 (by kernel_rfl) rfl
 ·exact enters_of Tryz.func47 (by kernel_rfl) rfl
set_option maxRecDepth 100000 in
set_option maxHeartbeats 16000000 in
theorem msgRight_any (m : Msg) (w : World) (h : MsgIn w m) (hs : m.small) : Calls Tryz.prog 12 #[.agg #[.int .i64 m.kind, .int .i64 m.frm, .int .i64 m.to_, .int .i64 m.seq, .int .i64 m.node, .int .i64 (m.u 0), .int .i64 (m.u 1), .int .i64 (m.u 2), .int .i64 (m.u 3), .int .i64 (m.u 4), .int .i64 (m.u 5), .int .i64 (m.u 6), .int .i64 (m.u 7), m.hm.val, m.he.val, m.hs.val]] w fun en w' => en = .returned (.bool m.rightB) ∧ Below w.heap.size w w' := by
 have hp : Tryz.prog.follows .mixedOrders = true := by kernel_rfl
 obtain ⟨w1, hw1⟩ : ∃ w1, w.alloc (.cells #[.int .i64 m.kind, .int .i64 m.frm, .int .i64 m.to_, .int .i64 m.seq, .int .i64 m.node, .int .i64 (m.u 0), .int .i64 (m.u 1), .int .i64 (m.u 2), .int .i64 (m.u 3), .int .i64 (m.u 4), .int .i64 (m.u 5), .int .i64 (m.u 6), .int .i64 (m.u 7), m.hm.val, m.he.val, m.hs.val] 38) = w1 := ⟨_, rfl⟩
 have hb : Below w.heap.size w w1 := by rw [← hw1]; exact (Below.refl _ _).alloc (Nat.le_refl _) _
 have hrow : w1.heap[w.heap.size]? = some (.cells #[.int .i64 m.kind, .int .i64 m.frm, .int .i64 m.to_, .int .i64 m.seq, .int .i64 m.node, .int .i64 (m.u 0), .int .i64 (m.u 1), .int .i64 (m.u 2), .int .i64 (m.u 3), .int .i64 (m.u 4), .int .i64 (m.u 5), .int .i64 (m.u 6), .int .i64 (m.u 7), m.hm.val, m.he.val, m.hs.val] 38) := by rw [← hw1]; exact heap_alloc_new w _
 have hbx : w.heap.size < w1.heap.size := (Array.getElem?_eq_some_iff.1 hrow).1
 have hM := h.below hb (Nat.le_refl _)
 obtain ⟨sa, sc, hsv, _⟩ := hM.ms.slice_of
 have hsm := hs.ms
 have c0 : w1.cell? ⟨w.heap.size, 0, none⟩ = some (.int .i64 m.kind) := cell_of_row w1 _ 0 _ _ _ hrow
 have c1 : w1.cell? ⟨w.heap.size, 1, none⟩ = some (.int .i64 m.frm) := cell_of_row w1 _ 1 _ _ _ hrow
 have c2 : w1.cell? ⟨w.heap.size, 2, none⟩ = some (.int .i64 m.to_) := cell_of_row w1 _ 2 _ _ _ hrow
 have c15 : w1.cell? ⟨w.heap.size, 15, none⟩ = some (.slice sa m.ms.length sc) := by rw [← hsv]; exact cell_of_row w1 _ 15 _ _ _ hrow
 have h1 := fun W => mwithin_any m.kind 1 5 (by omega) W
 have h2 := fun W => mnode_any m.frm W
 have h3 := fun W => mnode_any m.to_ W
 have h5 := members_any sa sc m.ms w1 (by rw [← hsv]; exact hM.ms) (by omega)
 have hfalse : ¬ m.right → m.rightB = false := Msg.rightB_false
 have HF := Lib.hid hfalse
 have H1 := Lib.hid h1
 have H2 := Lib.hid h2
 have H3 := Lib.hid h3
 have H5 := Lib.hid h5
 have HM := Lib.hid hM
 have HS := Lib.hid hs
 have HB := Lib.hid hb
 have HROW := Lib.hid hrow
 have HW1 := Lib.hid hw1
 clear h1 h2 h3 h5 hM hs hb hrow hw1 hfalse h hsv
 by_cases k1 : 1 ≤ m.kind ∧ m.kind ≤ 5
 ·have d1 := decide_eq_true k1
  rw [d1] at H1
  clear d1
  by_cases k2 : 0 ≤ m.frm ∧ m.frm ≤ 7
  ·have d2 := decide_eq_true k2
   rw [d2] at H2
   clear d2
   by_cases k3 : 0 ≤ m.to_ ∧ m.to_ ≤ 7
   ·have d3 := decide_eq_true k3
    rw [d3] at H3
    clear d3
    by_cases k4 : m.frm = m.to_
    ·rw [HF.out fun h => h.ne k4]
     have d4 : (m.frm == m.to_) = true := by simpa using k4
     clear k4 HF
     go_enter Tryz.func12, Tryz.ntmps12
     go_wp2_with fail
     rw [HW1.out]
     go_wp2_with (first | (go_at_call 41; refine (H1.out _).mono ?_; rintro en w2 ⟨rfl, rfl⟩) | (go_at_call_of 42 (Value.int .i64 m.frm); refine (H2.out _).mono ?_; rintro en w2 ⟨rfl, rfl⟩) | (go_at_call_of 42 (Value.int .i64 m.to_); refine (H3.out _).mono ?_; rintro en w2 ⟨rfl, rfl⟩))
     go_ret
     exact ⟨rfl, HB.out⟩
    ·have d4 : (m.frm == m.to_) = false := by simpa using k4
     by_cases k5 : MsOk m.ms
     ·have d5 := decide_eq_true k5
      rw [d5] at H5
      have K4 := Lib.hid k4
      clear d5 k4
      go_enter Tryz.func12, Tryz.ntmps12
      go_wp2_with fail
      rw [HW1.out]
      go_wp2_with (first | (go_at_call 41; refine (H1.out _).mono ?_; rintro en w2 ⟨rfl, rfl⟩) | (go_at_call_of 42 (Value.int .i64 m.frm); refine (H2.out _).mono ?_; rintro en w2 ⟨rfl, rfl⟩) | (go_at_call_of 42 (Value.int .i64 m.to_); refine (H3.out _).mono ?_; rintro en w2 ⟨rfl, rfl⟩) | (go_at_call 43; refine (H5.out).mono ?_; rintro en w2 ⟨rfl, hb2⟩))
      have hM2 := HM.out.below hb2 (Nat.le_refl _)
      have hrow2 := (hb2.block _ hbx).trans HROW.out
      have hbx2 : w.heap.size < w2.heap.size := Nat.lt_of_lt_of_le hbx hb2.size
      have HB2 := Lib.hid (HB.out.trans (hb2.mono HB.out.size))
      have HM2 := Lib.hid hM2
      have HROW2 := Lib.hid hrow2
      have hidx := fun i hi W => ask_index i hi W
      have HIDX := Lib.hid hidx
      clear hM2 hrow2 hb2 H1 H2 H3 H5 HM HROW HW1 HB hidx c0 c1 c2 c15 hbx
      generalize hafs : (#[.func (.func 44) #[] #[], .func (.func 45) #[] #[], .func (.func 46) #[] #[], .func (.func 47) #[] #[]] : Array Value) = afs at *
      go_loopg [4, 35] 4 (fun gk s4 s35 wr => ∃ (ix : Nat), s35 = .int .i64 ix ∧ ix ≤ 4 ∧ 4 - ix ≤ gk ∧ Hid (AskTo m ix) ∧ Hid (Below w2.heap.size w2 wr))
      case atStart => exact ⟨0, rfl, Nat.zero_le _, Nat.le_refl _, (fun k hk => absurd hk (Nat.not_lt_zero _)), Below.refl _ _⟩
      case round =>
       obtain ⟨ix, rfl, hi, hg, HP, HBW⟩ := hrel
       by_cases hlt : ix < 4
       ·have hltz : (ix : Int) < 4 := by omega
        have hix := HIDX.out ix hlt
        have eg := ask_enter ix hlt
        have hM3 := HM2.out.below HBW.out (Nat.le_refl _)
        have hbx : w.heap.size < wr.heap.size := Nat.lt_of_lt_of_le hbx2 HBW.out.size
        have HROW := Lib.hid ((HBW.out.block _ hbx2).trans HROW2.out)
        have HHAS := Lib.hid fun W => has_any m.kind k1 W
        have HASK := Lib.hid fun W (hW : Below wr.heap.size wr W) => ask_any m k1 HS.out ix hlt W (hM3.below hW (Nat.le_refl _))
        have HB3 := Lib.hid (HB2.out.trans (HBW.out.mono HB2.out.size))
        have HSTEP := Lib.hid (fun h => askTo_step HP.out (i := ix) h)
        have HNOT := Lib.hid (fun (h : m.right) => right_ask h ix)
        clear hM3 HM2 HROW2 HB2 HP
        go_wp2_with fail
        go_cut [44] (fun s44 wx => s44 = .bool (!askB m ix) ∧ Hid (Below wr.heap.size wr wx))
        case first =>
          refine tell_region (by kernel_rfl) [(38, fun v _ => v = .func (.func (askF ix)) #[] #[]), (39, fun v _ => v = .pointer (some ⟨w.heap.size, 0, none⟩)), (40, fun v _ => v = .int .i64 m.kind), (41, fun v _ => v = .agg (partsV m.kind)), (42, fun v _ => v = .agg #[.int .i64 m.kind, .int .i64 m.frm, .int .i64 m.to_, .int .i64 m.seq, .int .i64 m.node, .int .i64 (m.u 0), .int .i64 (m.u 1), .int .i64 (m.u 2), .int .i64 (m.u 3), .int .i64 (m.u 4), .int .i64 (m.u 5), .int .i64 (m.u 6), .int .i64 (m.u 7), m.hm.val, m.he.val, m.hs.val]), (43, fun v _ => v = .bool (askB m ix)), (44, fun v _ => v = .bool (!askB m ix))] rfl (by show ([38, 39, 40, 41, 42, 43, 44] : List Nat).Nodup; decide) (by show ∀ d ∈ ([38, 39, 40, 41, 42, 43, 44] : List Nat), d < 46; decide) (by kernel_rfl) ?hmono ?hstep ?hend
          case hmono =>
           intro p hp
           simp only [List.mem_cons, List.not_mem_nil, or_false] at hp
           rcases hp with rfl | rfl | rfl | rfl | rfl | rfl | rfl
           ·exact lasts_pure _
           ·exact lasts_pure _
           ·exact lasts_pure _
           ·exact lasts_pure _
           ·exact lasts_pure _
           ·exact lasts_pure _
           ·exact lasts_pure _
          case hstep =>
           intro i hi r w' hag hbel hn
           have hi2 : i < 7 := hi
           rcases (show i = 0 ∨ i = 1 ∨ i = 2 ∨ i = 3 ∨ i = 4 ∨ i = 5 ∨ i = 6 by omega) with rfl | rfl | rfl | rfl | rfl | rfl | rfl
           ·skip
            have e4 : r.eval (.tmp 4) = .func (.func (askF ix)) #[] #[] := (hag.out 4 (by simp)).trans rfl
            exact leaves_val rfl rfl rfl (v := .func (.func (askF ix)) #[] #[]) (by generalize r.eval = ρ at e4 ⊢; go_simp) (Below.refl _ _) rfl
           ·skip
            have e1 : r.eval (.tmp 1) = .pointer (some ⟨w.heap.size, 0, none⟩) := (hag.out 1 (by simp)).trans rfl
            exact leaves_val rfl rfl rfl (v := .pointer (some ⟨w.heap.size, 0, none⟩)) (by generalize r.eval = ρ at e1 ⊢; go_simp) (Below.refl _ _) rfl
           ·skip
            have e39 : r.eval (.tmp 39) = .pointer (some ⟨w.heap.size, 0, none⟩) := hn 1 (by simp) ⟨_, rfl, ⟨1, .data⟩, by simp, rfl, rfl⟩
            have c0 : w'.cell? ⟨w.heap.size, 0, none⟩ = some (.int .i64 m.kind) := cell_of_row w' w.heap.size 0 _ _ _ ((hbel.block w.heap.size hbx).trans HROW.out)
            exact leaves_val rfl rfl rfl (v := .int .i64 m.kind) (by generalize r.eval = ρ at e39 ⊢; go_simp) (Below.refl _ _) rfl
           ·skip
            have e40 : r.eval (.tmp 40) = .int .i64 m.kind := hn 2 (by simp) ⟨_, rfl, ⟨2, .data⟩, by simp, rfl, rfl⟩
            refine leaves_call (f := 48) (args := #[.int .i64 m.kind]) rfl rfl rfl (by have ef : r.eval (.func 48) = .func (.func 48) #[] #[] := rfl; generalize r.eval = ρ at ef e40 ⊢; go_simp) (HHAS.out w') ?_
            rintro e2 w2 ⟨rfl, hb⟩
            exact ⟨_, rfl, hb, rfl⟩
           ·skip
            have e1 : r.eval (.tmp 1) = .pointer (some ⟨w.heap.size, 0, none⟩) := (hag.out 1 (by simp)).trans rfl
            exact leaves_loadAgg rfl rfl rfl 38 (.tmp 1) rfl 16 (by kernel_rfl) (by kernel_rfl) ⟨w.heap.size, 0, none⟩ e1 _ (load_whole ((hbel.block w.heap.size hbx).trans HROW.out) rfl) rfl
           ·skip
            have e38 : r.eval (.tmp 38) = .func (.func (askF ix)) #[] #[] := hn 0 (by simp) ⟨_, rfl, ⟨0, .data⟩, by simp, rfl, rfl⟩
            have e41 : r.eval (.tmp 41) = .agg (partsV m.kind) := hn 3 (by simp) ⟨_, rfl, ⟨3, .data⟩, by simp, rfl, rfl⟩
            have e42 : r.eval (.tmp 42) = .agg #[.int .i64 m.kind, .int .i64 m.frm, .int .i64 m.to_, .int .i64 m.seq, .int .i64 m.node, .int .i64 (m.u 0), .int .i64 (m.u 1), .int .i64 (m.u 2), .int .i64 (m.u 3), .int .i64 (m.u 4), .int .i64 (m.u 5), .int .i64 (m.u 6), .int .i64 (m.u 7), m.hm.val, m.he.val, m.hs.val] := hn 4 (by simp) ⟨_, rfl, ⟨4, .data⟩, by simp, rfl, rfl⟩
            refine leaves_call (f := askF ix) (args := #[.agg (partsV m.kind), .agg #[.int .i64 m.kind, .int .i64 m.frm, .int .i64 m.to_, .int .i64 m.seq, .int .i64 m.node, .int .i64 (m.u 0), .int .i64 (m.u 1), .int .i64 (m.u 2), .int .i64 (m.u 3), .int .i64 (m.u 4), .int .i64 (m.u 5), .int .i64 (m.u 6), .int .i64 (m.u 7), m.hm.val, m.he.val, m.hs.val]]) rfl rfl rfl (by generalize r.eval = ρ at e38 e41 e42 ⊢; go_simp) (HASK.out w' hbel) ?_
            rintro e2 w2 ⟨rfl, hb⟩
            exact ⟨_, rfl, hb, rfl⟩
           ·skip
            have e43 : r.eval (.tmp 43) = .bool (askB m ix) := hn 5 (by simp) ⟨_, rfl, ⟨5, .data⟩, by simp, rfl, rfl⟩
            exact leaves_val rfl rfl rfl (v := .bool (!askB m ix)) (by generalize r.eval = ρ at e43 ⊢; go_simp) (Below.refl _ _) rfl
          case hend =>
           intro r w' hag hbel hall
           have e44 : r.eval (.tmp 44) = .bool (!askB m ix) := hall 6 (by simp)
           have hfin := Ag.final _ (by show ∀ d ∈ ([38, 39, 40, 41, 42, 43, 44] : List Nat), d < 46; decide) hag
           simp only [List.map, List.foldl, e44] at hfin
           generalize r.eval (.tmp 38) = y38 at hfin
           generalize r.eval (.tmp 39) = y39 at hfin
           generalize r.eval (.tmp 40) = y40 at hfin
           generalize r.eval (.tmp 41) = y41 at hfin
           generalize r.eval (.tmp 42) = y42 at hfin
           generalize r.eval (.tmp 43) = y43 at hfin
           have HBB := Lib.hid hbel
           clear e44 hall hag hbel
           subst hfin
           simp only [Act.put, List.setIfInBounds_toArray, List.set_cons_succ, List.set_cons_zero]
           go_wp2_with fail
           go_meet
           exact ⟨rfl, HBB.out⟩
        case rest =>
         obtain ⟨rfl, HBX⟩ := hcut
         have HBW3 := Lib.hid (HBW.out.trans (HBX.out.mono HBW.out.size))
         have HBW4 := Lib.hid (HB3.out.trans (HBX.out.mono HB3.out.size))
         cases hq : askB m ix with
         | true =>
          clear hix eg
          go_wp2_with fail
          go_roundg (4 - (ix + 1))
          case measure => omega
          case rel => exact ⟨ix + 1, by go_num, by omega, Nat.le_refl _, HSTEP.out hq, HBW3.out⟩
         | false =>
          have HRES := Lib.hid (HF.out fun h => by have := HNOT.out h; rw [hq] at this; cases this)
          clear hix eg
          go_wp2_with fail
          go_ret
          exact ⟨by rw [HRES.out]; rfl, HBW4.out⟩
       ·have hltz : ¬ (ix : Int) < 4 := by omega
        obtain rfl : ix = 4 := by omega
        have HRES := Lib.hid (Msg.rightB_true (askTo_right HP.out k1 k2 k3 K4.out k5))
        have HB3 := Lib.hid (HB2.out.trans (HBW.out.mono HB2.out.size))
        go_wp2_with fail
        go_ret
        exact ⟨by rw [HRES.out]; rfl, HB3.out⟩
     ·have d5 := decide_eq_false k5
      rw [d5] at H5
      rw [HF.out fun h => k5 h.ms]
      clear k4 d5 HF
      go_enter Tryz.func12, Tryz.ntmps12
      go_wp2_with fail
      rw [HW1.out]
      go_wp2_with (first | (go_at_call 41; refine (H1.out _).mono ?_; rintro en w2 ⟨rfl, rfl⟩) | (go_at_call_of 42 (Value.int .i64 m.frm); refine (H2.out _).mono ?_; rintro en w2 ⟨rfl, rfl⟩) | (go_at_call_of 42 (Value.int .i64 m.to_); refine (H3.out _).mono ?_; rintro en w2 ⟨rfl, rfl⟩) | (go_at_call 43; refine (H5.out).mono ?_; rintro en w2 ⟨rfl, hb2⟩))
      go_ret
      exact ⟨rfl, HB.out.trans (hb2.mono HB.out.size)⟩
   ·have d3 := decide_eq_false k3
    rw [d3] at H3
    rw [HF.out fun h => k3 h.to_]
    clear d3 HF
    go_enter Tryz.func12, Tryz.ntmps12
    go_wp2_with fail
    rw [HW1.out]
    go_wp2_with (first | (go_at_call 41; refine (H1.out _).mono ?_; rintro en w2 ⟨rfl, rfl⟩) | (go_at_call_of 42 (Value.int .i64 m.frm); refine (H2.out _).mono ?_; rintro en w2 ⟨rfl, rfl⟩) | (go_at_call_of 42 (Value.int .i64 m.to_); refine (H3.out _).mono ?_; rintro en w2 ⟨rfl, rfl⟩))
    go_ret
    exact ⟨rfl, HB.out⟩
  ·have d2 := decide_eq_false k2
   rw [d2] at H2
   rw [HF.out fun h => k2 h.frm]
   clear d2 HF
   go_enter Tryz.func12, Tryz.ntmps12
   go_wp2_with fail
   rw [HW1.out]
   go_wp2_with (first | (go_at_call 41; refine (H1.out _).mono ?_; rintro en w2 ⟨rfl, rfl⟩) | (go_at_call_of 42 (Value.int .i64 m.frm); refine (H2.out _).mono ?_; rintro en w2 ⟨rfl, rfl⟩))
   go_ret
   exact ⟨rfl, HB.out⟩
 ·have d1 := decide_eq_false k1
  rw [d1] at H1
  rw [HF.out fun h => k1 h.kind]
  clear d1 HF
  go_enter Tryz.func12, Tryz.ntmps12
  go_wp2_with fail
  rw [HW1.out]
  go_wp2_with (first | (go_at_call 41; refine (H1.out _).mono ?_; rintro en w2 ⟨rfl, rfl⟩))
  go_ret
  exact ⟨rfl, HB.out⟩
end Go.Proofs.YtenkfnhcdfmkaaaGreat
