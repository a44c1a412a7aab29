/-
  How many events one frame holds, plainly; a list of events in pieces.
  How many bytes a message's frame has; the least number of which a test holds.
  slices.Clone at members: a reading of the same members in new memory.
-/
import Derived.Test.YtenkfnhcdfmkaaaGreatMsgPut
import Derived.Test.YtenkfnhcdfmkaaaGreatMRd
namespace Go.Proofs.YtenkfnhcdfmkaaaGreat
open Go.RowKit Go.Lib
set_option linter.unusedVariables false
theorem vl_pos (n : Int) : 1 ≤ vl n := vlen_pos _
theorem evLen_ge (e : Ev) : 5 ≤ evLen e := by
 have h1 := vl_pos e.dot.node
 have h2 := vl_pos e.dot.seq
 have h3 := vl_pos e.time
 have h4 := vl_pos e.kind
 have h5 := vl_pos e.work
 unfold evLen
 omega
theorem evsLen_ge : ∀ l : List PEv, 5 * l.length ≤ evsLen l
 | [] => Nat.le_refl _
 | p :: l => by
  have h1 := evLen_ge p.2
  have h2 := evsLen_ge l
  show 5 * (l.length + 1) ≤ evLen p.2 + evsLen l
  omega
theorem evsLen_map {qs ps : List PEv} (h : qs.map (·.2) = ps.map (·.2)) : evsLen qs = evsLen ps := by
 induction qs generalizing ps with
 | nil =>
  cases ps with
  | nil => rfl
  | cons a b => simp at h
 | cons q l ih =>
  cases ps with
  | nil => simp at h
  | cons a b =>
   simp only [List.map_cons, List.cons.injEq] at h
   show evLen q.2 + evsLen l = evLen a.2 + evsLen b
   rw [h.1, ih h.2]
theorem map_len {qs ps : List PEv} (h : qs.map (·.2) = ps.map (·.2)) : qs.length = ps.length := by
 have := congrArg List.length h
 simpa using this
theorem bodyLen_map {qs ps : List PEv} (h : qs.map (·.2) = ps.map (·.2)) : bodyLen qs = bodyLen ps := by
 unfold bodyLen
 rw [evsLen_map h, map_len h]
theorem forall_map {qs ps : List PEv} {P : Ev → Prop} (h : qs.map (·.2) = ps.map (·.2)) (hp : ∀ p ∈ ps, P p.2) : ∀ q ∈ qs, P q.2 := by
 intro q hq
 have : q.2 ∈ ps.map (·.2) := by rw [← h]; exact List.mem_map_of_mem hq
 obtain ⟨p, h1, h2⟩ := List.mem_map.1 this
 rw [← h2]; exact hp p h1
def frameLen (l : List PEv) (k : Nat) : Nat := flen (bodyLen (l.take k))
theorem frameLen_ge (l : List PEv) {k : Nat} (h : k ≤ l.length) : 5 * k + 11 ≤ frameLen l k := by
 have h1 := evsLen_ge (l.take k)
 rw [List.length_take, Nat.min_eq_left h] at h1
 have h2 := vlen_pos (bodyLen (l.take k))
 have h3 := vl_pos ((l.take k).length : Int)
 unfold frameLen flen
 have e : bodyLen (l.take k) = 4 + (vl (l.take k).length + evsLen (l.take k)) := rfl
 omega
theorem frameLen_map {qs ps : List PEv} (h : qs.map (·.2) = ps.map (·.2)) (k : Nat) : frameLen qs k = frameLen ps k := by
 unfold frameLen
 rw [bodyLen_map]
 rw [List.map_take, List.map_take, h]
structure Fits (mtu : Nat) (l : List PEv) (r : Nat) : Prop where
 le : r ≤ l.length
 fits : 0 < r → frameLen l r ≤ mtu
 more : r < l.length → mtu < frameLen l (r + 1)
theorem Fits.of_search {mtu : Nat} {l : List PEv} {r : Nat} (h : r ≤ min l.length (mtu / 5)) (h1 : r < min l.length (mtu / 5) → mtu < frameLen l (r + 1)) (h2 : 0 < r → ¬ mtu < frameLen l (r - 1 + 1)) : Fits mtu l r := by
 refine ⟨by omega, fun hr => ?_, fun hr => ?_⟩
 ·have h3 := h2 hr
  rw [Nat.sub_add_cancel hr] at h3
  exact Nat.le_of_not_lt h3
 ·by_cases h3 : r < min l.length (mtu / 5)
  ·exact h1 h3
  ·have h4 : r = mtu / 5 := by omega
   have h5 := frameLen_ge l (k := r + 1) (by omega)
   omega
theorem Fits.pos {mtu : Nat} {l : List PEv} {r : Nat} (h : Fits mtu l r) (hm : 512 ≤ mtu) (hr : ∀ p ∈ l, RightEv p.2) (h0 : 0 < l.length) : 0 < r := by
 rcases Nat.eq_zero_or_pos r with rfl | h1
 ·have h2 := h.more h0
  have h3 := evsLen_le (l.take 1) fun p hp => hr p (List.mem_of_mem_take hp)
  have h4 : (l.take 1).length = 1 := by rw [List.length_take]; omega
  rw [h4] at h3
  have h5 : bodyLen (l.take 1) ≤ 229 := by
   unfold bodyLen
   have := vl_le ((l.take 1).length : Int)
   omega
  have h6 := vlen_le (bodyLen (l.take 1))
  unfold frameLen flen at h2
  rw [Nat.zero_add] at h2
  omega
 ·exact h1
inductive Pieces (mtu : Nat) : List PEv → List (List Ev) → Prop
 | nil : Pieces mtu [] []
 | cons {l : List PEv} {n : Nat} {cs : List (List Ev)} : 0 < n → Fits mtu l n → Pieces mtu (l.drop n) cs → Pieces mtu l ((l.take n).map (·.2) :: cs)
theorem Pieces.all {mtu : Nat} {l : List PEv} {cs : List (List Ev)} (h : Pieces mtu l cs) : cs.flatten = l.map (·.2) := by
 induction h with
 | nil => rfl
 | @cons l n cs _ _ _ ih => rw [List.flatten_cons, ih, ← List.map_append, List.take_append_drop]
theorem Fits.map {mtu : Nat} {qs ps : List PEv} {r : Nat} (h : Fits mtu ps r) (e : qs.map (·.2) = ps.map (·.2)) : Fits mtu qs r := by
 have hl := map_len e
 exact ⟨by rw [hl]; exact h.le, fun hr => by rw [frameLen_map e]; exact h.fits hr, fun hr => by rw [frameLen_map e]; exact h.more (by omega)⟩
theorem Pieces.map {mtu : Nat} {qs ps : List PEv} {cs : List (List Ev)} (h : Pieces mtu ps cs) (e : qs.map (·.2) = ps.map (·.2)) : Pieces mtu qs cs := by
 induction h generalizing qs with
 | nil =>
  have := map_len e
  have : qs = [] := List.eq_nil_of_length_eq_zero this
  subst this
  exact .nil
 | @cons l n cs h1 h2 h3 ih =>
  have h4 : (l.take n).map (·.2) = (qs.take n).map (·.2) := by rw [List.map_take, List.map_take, e]
  rw [h4]
  exact .cons h1 (h2.map e) (ih (by rw [List.map_drop, List.map_drop, e]))
end Go.Proofs.YtenkfnhcdfmkaaaGreat
namespace Go.Proofs.YtenkfnhcdfmkaaaGreat
open Go.RowKit Go.Lib
set_option linter.unusedVariables false
set_option linter.unusedSimpArgs false
set_option maxRecDepth 100000 in
set_option maxHeartbeats 2000000 in
theorem msgSize_any (m : Msg) (hs : m.small) (hr : m.right) (h5 : m.kind = 5) (h0 : m.ms = []) (w : World) (h : MsgIn w m) :
  Calls Tryz.prog 131 #[.agg #[.int .i64 m.kind, .int .i64 m.frm, .int .i64 m.to_, .int .i64 m.seq, .int .i64 m.node, .int .i64 (m.u 0), .int .i64 (m.u 1), .int .i64 (m.u 2), .int .i64 (m.u 3), .int .i64 (m.u 4), .int .i64 (m.u 5), .int .i64 (m.u 6), .int .i64 (m.u 7), m.hm.val, m.he.val, m.hs.val]] w fun e w' => ∃ (n : Nat) (er : Int), e = .returned (.tuple #[.int .i64 n, .int .i64 er]) ∧ (bodyLen m.evs ≤ 4096 → er = 0 ∧ n = flen (bodyLen m.evs)) ∧ (4096 < bodyLen m.evs → er = 6) ∧ Below w.heap.size w w' := by
 obtain ⟨w1, hw1⟩ : ∃ w1, w.alloc (.cells #[.int .i64 m.kind, .int .i64 m.frm, .int .i64 m.to_, .int .i64 m.seq, .int .i64 m.node, .int .i64 (m.u 0), .int .i64 (m.u 1), .int .i64 (m.u 2), .int .i64 (m.u 3), .int .i64 (m.u 4), .int .i64 (m.u 5), .int .i64 (m.u 6), .int .i64 (m.u 7), m.hm.val, m.he.val, m.hs.val] 38) = w1 := ⟨_, rfl⟩
 have hb1 : Below w.heap.size w w1 := by rw [← hw1]; exact (Below.refl _ _).alloc (Nat.le_refl _) _
 have hr1 : w1.heap[w.heap.size]? = some (.cells #[.int .i64 m.kind, .int .i64 m.frm, .int .i64 m.to_, .int .i64 m.seq, .int .i64 m.node, .int .i64 (m.u 0), .int .i64 (m.u 1), .int .i64 (m.u 2), .int .i64 (m.u 3), .int .i64 (m.u 4), .int .i64 (m.u 5), .int .i64 (m.u 6), .int .i64 (m.u 7), m.hm.val, m.he.val, m.hs.val] 38) := by rw [← hw1]; exact heap_alloc_new w _
 have HPU := Lib.hid (msgPut_any m hs hr h5 h0 w1 (h.below hb1 (Nat.le_refl _)))
 have HLW := Lib.hid (load_whole hr1 rfl)
 have HW1 := Lib.hid hw1
 have HB1 := Lib.hid hb1
 clear hw1 hb1 hr1 hs hr h5 h0 h
 go_enter Tryz.func131, Tryz.ntmps131
 go_upto_region 1 with fail
 rw [HW1.out]
 go_wp2_with (refine wpList_loadAgg _ rfl 38 _ rfl 16 (by kernel_rfl) (by kernel_rfl) ⟨w.heap.size, 0, none⟩ rfl _ HLW.out ?_)
 refine HPU.out.mono ?_
 rintro e w2 ⟨o, n, c, er, rfl, h1, h2, hb2⟩
 have H1 := Lib.hid h1
 have H2 := Lib.hid h2
 have HB2 := Lib.hid (HB1.out.trans (hb2.mono HB1.out.size))
 clear h1 h2 hb2 HPU HLW HW1 HB1
 go_wp2_with fail
 go_ret2
 exact ⟨n, er, rfl, H1.out, H2.out, HB2.out⟩
set_option maxRecDepth 100000 in
set_option maxHeartbeats 2000000 in
theorem search_any (K : Nat) (free : Array Value) (eg : ∀ args w, (callFunc K args).run Tryz.prog w = .ok (.enter K args) w) (n : Nat) (hn : n ≤ 1000000) (f : Nat → Bool) (w : World) (hs : ∀ k, k < n → ∀ W, Below w.heap.size w W → Calls Tryz.prog K (#[.int .i64 (k : Int)] ++ free) W fun e w' => e = .returned (.bool (f k)) ∧ Below W.heap.size W w') :
  Calls Tryz.prog 132 #[.int .i64 n, .func (.func K) #[] free] w fun e w' => ∃ r : Nat, r ≤ n ∧ e = .returned (.int .i64 r) ∧ (r < n → f r = true) ∧ (0 < r → f (r - 1) = false) ∧ Below w.heap.size w w' := by
 have HS := Lib.hid hs
 clear hs
 go_enter Tryz.func132, Tryz.ntmps132
 go_wp2_with fail
 go_loopg [5, 6, 7] n (fun gk s5 s6 s7 wr => ∃ (i j : Nat), s5 = .int .i64 i ∧ s6 = .int .i64 j ∧ i ≤ j ∧ j ≤ n ∧ j - i ≤ gk ∧ Hid (j < n → f j = true) ∧ Hid (0 < i → f (i - 1) = false) ∧ Hid (Below w.heap.size w wr))
 case atStart => exact ⟨0, n, rfl, rfl, Nat.zero_le _, Nat.le_refl _, Nat.le_refl _, (fun h => absurd h (Nat.lt_irrefl _)), (fun h => absurd h (Nat.lt_irrefl _)), Below.refl _ _⟩
 case round =>
  obtain ⟨i, j, rfl, rfl, hij, hjn, hgk, HJ, HI, HB⟩ := hrel
  by_cases hlt : i < j
  ·have hltz : (i : Int) < (j : Int) := by omega
   go_upto_region 4 with fail
   obtain ⟨h, hh⟩ : ∃ h : Nat, ((i : Int) + (j : Int)) / 2 = (h : Int) := ⟨(i + j) / 2, by omega⟩
   have hih : i ≤ h := by omega
   have hhj : h < j := by omega
   rw [hh]
   have hc := HS.out h (by omega) wr HB.out
   cases hf : f h with
   | true =>
    rw [hf] at hc
    have HC := Lib.hid hc
    have HF := Lib.hid hf
    clear hc hh hf
    go_wp2_with (go_at_fn K; refine HC.out.mono ?_; rintro e w2 ⟨rfl, hb2⟩)
    go_roundg (h - i)
    case measure => omega
    case rel => exact ⟨i, h, rfl, rfl, hih, by omega, Nat.le_refl _, (fun _ => HF.out), HI.out, HB.out.trans (hb2.mono HB.out.size)⟩
   | false =>
    rw [hf] at hc
    have HC := Lib.hid hc
    have HF := Lib.hid hf
    clear hc hh hf
    go_wp2_with (go_at_fn K; refine HC.out.mono ?_; rintro e w2 ⟨rfl, hb2⟩)
    go_roundg (j - (h + 1))
    case measure => omega
    case rel => exact ⟨h + 1, j, by go_num, rfl, by omega, hjn, Nat.le_refl _, HJ.out, (fun _ => by rw [Nat.add_sub_cancel]; exact HF.out), HB.out.trans (hb2.mono HB.out.size)⟩
  ·have hltz : ¬ (i : Int) < (j : Int) := by omega
   obtain rfl : i = j := by omega
   go_wp2_with fail
   go_ret
   exact ⟨i, hjn, rfl, HJ.out, HI.out, HB.out⟩
end Go.Proofs.YtenkfnhcdfmkaaaGreat
namespace Go.Proofs.YtenkfnhcdfmkaaaGreat
open Go.RowKit Go.Lib
set_option linter.unusedVariables false
set_option linter.unusedSimpArgs false
theorem infoMemberC : (Tryz.prog.info? 143).map (fun i => (i.zero, i.size, i.bytes)) = some (some (.agg #[.int .i64 0, .int .i64 0, .int .i64 0]), 3, 24) := by kernel_rfl
set_option maxHeartbeats 1000000 in
theorem cloneMb_any (v : Value) (l : List Mb) (w : World) (h : SlAt Mb.cells w v l) (hl : l.length ≤ 1000000) :
  Calls Tryz.prog 129 #[v] w fun e w' => ∃ hd : Hdr, e = .returned hd.val ∧ Owns Mb.cells 3 w.heap.size 143 w' hd.val l ∧ Below w.heap.size w w' := by
 have q44 : ∀ (w : World) (a : Option Addr) (n c n' c' : Nat), (binOp .eql 36 (.slice a n c) (.slice none n' c')).run Tryz.prog w = .ok (.bool a.isNone) w := fun w a n c n' c' => Lib.run_eql_slice_nil w _ _ a n c n' c' Tryz.underlying36
 obtain ⟨oa, cap, rfl, hcap, hn, hc⟩ := h
 cases oa with
 | none =>
  obtain rfl := hn rfl
  obtain rfl : l = [] := List.eq_nil_of_length_eq_zero (by omega)
  go_enter Tryz.func129, Tryz.ntmps129
  go_wp2
  go_ret
  exact ⟨⟨none, 0, 0⟩, rfl, Owns.nil _ _ _ _ _, Below.refl _ _⟩
 | some aa =>
  have HS : Hid (SlAt Mb.cells w (.slice (some aa) l.length cap) l) := ⟨some aa, cap, rfl, hcap, hn, hc⟩
  clear hc hn
  go_enter Tryz.func129, Tryz.ntmps129
  go_wp2_with (at_builtin; go_loud (refine wpList_app Mb.cells 3 Mb.cells_len (by decide) Mb.cells_one _ rfl _ _ 36 rfl w.heap.size 143 _ 24 Tryz.underlying36 infoMemberC rfl _ [] rfl ?h1 _ l rfl ?h2 ?h3 ?h4 ?h5 ?_))
  case h1 => exact World.ownsRow_made w #[] 0 (Nat.le_refl _) (by decide) rfl
  case h2 => exact HS.out.below Mb.cells_len (by decide) ((Below.refl _ _).alloc (Nat.le_refl _) _) (Nat.le_refl _)
  case h3 => simp only [List.length_nil]; omega
  case h4 => simp only [List.length_nil]; omega
  case h5 => simp
  intro v' w' hown hg hv
  obtain ⟨h, hh⟩ : ∃ h : Hdr, v' = h.val := hdr_of_slAt hown.at
  rw [hh]
  rw [hh] at hown
  have HG := Lib.hid hg
  have HO := Lib.hid hown
  clear hg hown hv
  go_wp2
  go_ret
  exact ⟨h, rfl, HO.out, ((Below.refl _ _).alloc (Nat.le_refl _) _).trans (Below.grown (Below.refl _ _) HG.out (by simp) (fun k hk => by simp [Value.ownBlock] at hk; omega))⟩
end Go.Proofs.YtenkfnhcdfmkaaaGreat
