/-
  A gossip in memory; gossip.New, Book, node.
-/
import Derived.Test.YtenkfnhcdfmkaaaGreatSplit
import Derived.Test.YtenkfnhcdfmkaaaGreatBookAdd
import Derived.Test.YtenkfnhcdfmkaaaGreatMDotList
import Derived.Test.YtenkfnhcdfmkaaaGreatNext
import Derived.Test.YtenkfnhcdfmkaaaGreatMSwimP
namespace Go.Proofs.YtenkfnhcdfmkaaaGreat
open Go.RowKit Go.Lib Go.Shelf
set_option linter.unusedVariables false
set_option linter.unusedSimpArgs false
structure Gsp where
 self : Int
 mtu : Nat
 s : Int
 S : BookS
structure GM where
 g : Nat
 bo : Nat
 BO : Nat
 bb : Nat
 ms : Nat
 mh : Nat
 B : Nat
def GM.own (M : GM) (k : Nat) : Prop := k = M.bo ∨ k = M.bb ∨ k = M.ms ∨ k = M.mh
structure GAt (W : World) (M : GM) (x : Gsp) : Prop where
 row : W.heap[M.g]? = some (.cells #[.int .i64 x.self, .int .i64 x.mtu, .pointer (some ⟨M.bo, 0, none⟩), .pointer (some ⟨M.bb, 0, none⟩)] 91)
 ord : Obj 136 M.bo M.BO W x.s []
 book : BookAt W M.bb M.ms M.mh M.B x.S
 lto : M.bo < M.B
 nob : M.bo ≠ M.bb
 nos : M.bo ≠ M.ms
 noh : M.bo ≠ M.mh
 ng : ¬ M.own M.g
structure Gsp.Ok (x : Gsp) : Prop where
 self : 0 ≤ x.self ∧ x.self ≤ 7
 mtu : 512 ≤ x.mtu ∧ x.mtu ≤ 4096
 fine : x.S.Fine
theorem BookAt.aside {W W' : World} {bb ms mh B : Nat} {S : BookS} (h : BookAt W bb ms mh B S) (hsz : W.heap.size ≤ W'.heap.size) {k : Nat} (hb : ∀ i, i < W.heap.size → i ≠ k → W'.heap[i]? = W.heap[i]?) (h1 : k < B) (h2 : k ≠ bb) (h3 : k ≠ ms) (h4 : k ≠ mh) : BookAt W' bb ms mh B S := by
 have h0 := h.size
 refine ⟨h.ltb, h.lts, h.lth, h.nbs, h.nbh, h.nsh, Nat.le_trans h.size hsz, (hb _ (by have := h.ltb; omega) (Ne.symm h2)).trans h.obj, ?_, ?_, h.may⟩
 ·obtain ⟨Es, k1, k2⟩ := h.seen
  exact ⟨Es, k1.keep (hb _ (by have := h.lts; omega) (Ne.symm h3)), k2⟩
 ·obtain ⟨Eh, hs, k1, k2, k3, k4⟩ := h.holds
  exact ⟨Eh, hs, k1.keep (hb _ (by have := h.lth; omega) (Ne.symm h4)), k2, k3, fun p hp => (k4 p hp).keep fun g hg => hb g ((k4 p hp).lt g hg).2 (by have := ((k4 p hp).lt g hg).1; omega)⟩
theorem GAt.below {W W' : World} {M : GM} {x : Gsp} (h : GAt W M x) {C : Nat} (hb : Below C W W') (hC : W.heap.size ≤ C) : GAt W' M x :=
 ⟨(hb.block _ (Nat.lt_of_lt_of_le (Array.getElem?_eq_some_iff.1 h.row).1 hC)).trans h.row, h.ord.below hb hC, h.book.below hb hC, h.lto, h.nob, h.nos, h.noh, h.ng⟩
theorem GAt.cells {W : World} {M : GM} {x : Gsp} (h : GAt W M x) : W.cell? ⟨M.g, 0, none⟩ = some (.int .i64 x.self) ∧ W.cell? ⟨M.g, 1, none⟩ = some (.int .i64 x.mtu) ∧ W.cell? ⟨M.g, 2, none⟩ = some (.pointer (some ⟨M.bo, 0, none⟩)) ∧ W.cell? ⟨M.g, 3, none⟩ = some (.pointer (some ⟨M.bb, 0, none⟩)) :=
 ⟨cell_of_row W _ 0 _ _ _ h.row, cell_of_row W _ 1 _ _ _ h.row, cell_of_row W _ 2 _ _ _ h.row, cell_of_row W _ 3 _ _ _ h.row⟩
theorem GAt.lt {W : World} {M : GM} {x : Gsp} (h : GAt W M x) : M.g < W.heap.size := (Array.getElem?_eq_some_iff.1 h.row).1
theorem GAt.booked {W W' : World} {M : GM} {x : Gsp} (h : GAt W M x) {S : BookS} (hb : BookAt W' M.bb M.ms M.mh M.B S) (ht : Turns3 M.bb M.ms M.mh W W') : GAt W' M ⟨x.self, x.mtu, x.s, S⟩ := by
 have hg := h.ng
 unfold GM.own at hg
 have ho : ∀ k, k < W.heap.size → ¬ (k = M.bb ∨ k = M.ms ∨ k = M.mh) → W'.heap[k]? = W.heap[k]? := fun k hk hn => ht.block k hk (fun e => hn (.inl e)) (fun e => hn (.inr (.inl e))) (fun e => hn (.inr (.inr e)))
 refine ⟨(ho _ h.lt (fun e => hg (.inr e))).trans h.row, ?_, hb, h.lto, h.nob, h.nos, h.noh, h.ng⟩
 obtain ⟨v, h1, h2, h3, h4⟩ := h.ord
 exact ⟨v, h1.keep (ho _ h1.lt (fun e => e.elim h.nob fun e => e.elim h.nos h.noh)), h2.keep (.inl rfl), h3, h4⟩
theorem turns_touch {M : GM} {W W' : World} (ht : Turns3 M.bb M.ms M.mh W W') : Touch M.own W W' :=
 ⟨ht.os, ht.tape, ht.output, ht.size, fun k hk hn => ht.block k hk (fun e => hn (.inr (.inl e))) (fun e => hn (.inr (.inr (.inl e)))) (fun e => hn (.inr (.inr (.inr e))))⟩
theorem GAt.ordered {W W' : World} {M : GM} {x : Gsp} (h : GAt W M x) {s : Int} (ho : Obj 136 M.bo M.BO W' s []) (hg : W.grownBy W' (some M.bo)) : GAt W' M ⟨x.self, x.mtu, s, x.S⟩ := by
 have hn := h.ng
 unfold GM.own at hn
 have hk : ∀ k, k < W.heap.size → k ≠ M.bo → W'.heap[k]? = W.heap[k]? := fun k hk hne => hg.block k hk fun e => hne (Option.some.inj e)
 exact ⟨(hk _ h.lt (fun e => hn (.inl e))).trans h.row, ho, h.book.aside hg.size hk h.lto h.nob h.nos h.noh, h.lto, h.nob, h.nos, h.noh, h.ng⟩
set_option maxHeartbeats 1000000 in
theorem gnode_any (n : Int) (w : World) : Calls Tryz.prog 31 #[.int .i64 n] w fun e w' => e = .returned (.bool (decide (0 ≤ n) && decide (n ≤ 7))) ∧ w' = w := by
 obtain ⟨v, hv, hc⟩ := withinM_is n 0 7 (by decide) w
 have HC := Lib.hid (hc w)
 clear hc
 go_enter Tryz.func31, Tryz.ntmps31
 go_wp2_with fail
 refine HC.out.mono ?_
 rintro e w1 ⟨rfl, rfl⟩
 go_wp2_with fail
 go_ret
 exact ⟨rfl, rfl⟩
set_option maxHeartbeats 1000000 in
theorem gbook_any (W : World) (M : GM) (x : Gsp) (h : GAt W M x) : Calls Tryz.prog 9 #[.pointer (some ⟨M.g, 0, none⟩)] W fun e w' => e = .returned (.pointer (some ⟨M.bb, 0, none⟩)) ∧ w' = W := by
 obtain ⟨c0, c1, c2, c3⟩ := h.cells
 clear h
 go_enter Tryz.func9, Tryz.ntmps9
 go_wp2_with fail
 go_ret
 exact ⟨rfl, rfl⟩
set_option maxHeartbeats 1000000 in
theorem gnew_good (self : Int) (mtu : Nat) (seed : Int) (h1 : 0 ≤ self ∧ self ≤ 7) (h2 : 512 ≤ mtu ∧ mtu ≤ 4096) (w : World) :
  Calls Tryz.prog 8 #[.int .i64 self, .int .i64 mtu, .int .u64 seed] w fun e w' => ∃ M : GM, e = .returned (.tuple #[.pointer (some ⟨M.g, 0, none⟩), .int .i64 0]) ∧ GAt w' M ⟨self, mtu, seed, BookS.new⟩ ∧ Below w.heap.size w w' ∧ w.heap.size ≤ M.g ∧ ∀ k, M.own k → w.heap.size ≤ k := by
 have hn := gnode_any self w
 rw [decide_eq_true h1.1, decide_eq_true h1.2] at hn
 have hwi : within (mtu : Int) 512 4096 = mtu := by unfold within; rw [if_neg (by omega), if_neg (by omega)]
 have HWI := Lib.hid (hwi ▸ within_any mtu 512 4096 w)
 have HN := Lib.hid hn
 have HPN := Lib.hid (new_any seed w)
 clear hn hwi
 go_enter Tryz.func8, Tryz.ntmps8
 go_wp2_with fail
 refine HN.out.mono ?_
 rintro e w1 ⟨rfl, rfl⟩
 go_wp2_with fail
 refine HWI.out.mono ?_
 rintro e w2 ⟨rfl, rfl⟩
 go_wp2_with fail
 refine HPN.out.mono ?_
 rintro e w3 ⟨rfl, rfl⟩
 have HBN := Lib.hid (bookNew_any (w1.alloc (.cells #[.int .u64 seed, .slice none 0 0] 136)))
 go_wp2_with fail
 refine HBN.out.mono ?_
 rintro e w4 ⟨bb, ms, mh, B, rfl, hbk, hb4, l1, l2, l3⟩
 have hz1 : (w1.alloc (.cells #[.int .u64 seed, .slice none 0 0] 136)).heap.size = w1.heap.size + 1 := World.size_alloc _ _
 have hord : Obj 136 w1.heap.size (w1.heap.size + 1) (w1.alloc (.cells #[.int .u64 seed, .slice none 0 0] 136)) seed [] := ⟨.slice none 0 0, ⟨heap_alloc_new w1 _⟩, SlAt.nil _ _, Nat.lt_succ_self _, fun g hg => by simp [Value.ownBlock] at hg⟩
 have HBK := Lib.hid hbk
 have HB4 := Lib.hid hb4
 have HOR := Lib.hid hord
 have hzb := hbk.size
 have hl1 := hbk.ltb
 have hz4 := hb4.size
 clear hbk hb4 hord HWI HN HPN HBN
 go_wp2_with fail
 have hba : Below w1.heap.size w1 w4 := ((Below.refl _ _).alloc (Nat.le_refl _) _).trans (HB4.out.mono (by omega))
 have hal := (Below.refl w4.heap.size w4).alloc (Nat.le_refl _) (.cells #[.int .i64 self, .int .i64 mtu, .pointer (some ⟨w1.heap.size, 0, none⟩), .pointer (some ⟨bb, 0, none⟩)] 91)
 have hrow : (w4.alloc (.cells #[.int .i64 self, .int .i64 mtu, .pointer (some ⟨w1.heap.size, 0, none⟩), .pointer (some ⟨bb, 0, none⟩)] 91)).heap[w4.heap.size]? = _ := heap_alloc_new w4 _
 go_ret2
 refine ⟨⟨w4.heap.size, w1.heap.size, w1.heap.size + 1, bb, ms, mh, B⟩, rfl, ⟨hrow, (HOR.out.below HB4.out (Nat.le_refl _)).below hal (Nat.le_refl _), HBK.out.below hal (Nat.le_refl _), ?_, ?_, ?_, ?_, ?_⟩, hba.trans (hal.mono hba.size), hba.size, ?_⟩
 ·show w1.heap.size < B; omega
 ·show w1.heap.size ≠ bb; omega
 ·show w1.heap.size ≠ ms; omega
 ·show w1.heap.size ≠ mh; omega
 ·have h5 := HBK.out.lts
  have h6 := HBK.out.lth
  unfold GM.own
  show ¬ (w4.heap.size = w1.heap.size ∨ w4.heap.size = bb ∨ w4.heap.size = ms ∨ w4.heap.size = mh)
  omega
 ·intro k hk
  change k = w1.heap.size ∨ k = bb ∨ k = ms ∨ k = mh at hk
  omega
set_option maxHeartbeats 1000000 in
theorem gnew_bad (self mtu seed : Int) (h : ¬ ((0 ≤ self ∧ self ≤ 7) ∧ 512 ≤ mtu ∧ mtu ≤ 4096)) (w : World) :
  Calls Tryz.prog 8 #[.int .i64 self, .int .i64 mtu, .int .u64 seed] w fun e w' => e = .returned (.tuple #[.pointer none, .int .i64 2]) ∧ w' = w := by
 have HN := Lib.hid (gnode_any self w)
 obtain ⟨v, hv, hc⟩ := withinM_is mtu 512 4096 (by decide) w
 have HWI := Lib.hid (hc w)
 clear hc
 by_cases h1 : 0 ≤ self ∧ self ≤ 7
 ·have h2 : ¬ (512 ≤ mtu ∧ mtu ≤ 4096) := fun h2 => h ⟨h1, h2⟩
  rw [decide_eq_false h2] at hv
  rw [decide_eq_true h1.1, decide_eq_true h1.2] at HN
  have hvn : (v != mtu) = true := by simp [bne, hv]
  clear h
  go_enter Tryz.func8, Tryz.ntmps8
  go_wp2_with fail
  refine HN.out.mono ?_
  rintro e w1 ⟨rfl, rfl⟩
  go_wp2_with fail
  refine HWI.out.mono ?_
  rintro e w2 ⟨rfl, rfl⟩
  go_wp2_with fail
  go_ret2
  exact ⟨rfl, rfl⟩
 ·have hb : (decide (0 ≤ self) && decide (self ≤ 7)) = false := by
   rw [← Bool.not_eq_true, Bool.and_eq_true, decide_eq_true_eq, decide_eq_true_eq]; exact h1
  rw [hb] at HN
  clear h h1 hb hv
  go_enter Tryz.func8, Tryz.ntmps8
  go_wp2_with fail
  refine HN.out.mono ?_
  rintro e w1 ⟨rfl, rfl⟩
  go_wp2_with fail
  go_ret2
  exact ⟨rfl, rfl⟩
end Go.Proofs.YtenkfnhcdfmkaaaGreat
