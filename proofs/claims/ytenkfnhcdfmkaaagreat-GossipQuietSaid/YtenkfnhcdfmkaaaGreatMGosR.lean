/-
  What a gossip sends is right; the law's example, reckoned. No function of the program is entered.
  The law's example, walked: it holds.
-/
import Derived.Test.YtenkfnhcdfmkaaaGreatMTell4
namespace Go.Proofs.YtenkfnhcdfmkaaaGreat
open Go.RowKit Go.Lib
set_option linter.unusedVariables false
theorem IsDigest.right {S : BookS} {self to_ seq : Int} {m : Msg} (h : IsDigest S self to_ seq m) (hok : S.saw.Ok) (h1 : 0 ≤ self ∧ self ≤ 7) (h2 : 0 ≤ to_ ∧ to_ ≤ 7) (hne : self ≠ to_) (hs : 0 ≤ seq ∧ seq ≤ 1) : m.right where
 kind := by rw [h.kind]; omega
 frm := by rw [h.frm]; exact h1
 to_ := by rw [h.to_]; exact h2
 ne := by rw [h.frm, h.to_]; exact hne
 ms := by rw [h.ms]; exact ⟨(fun m hm => by cases hm), List.Pairwise.nil⟩
 seq := by unfold Msg.seqOk; rw [h.seq, h.kind]; exact ⟨hs.1, hs.2⟩
 node := .inr h.node
 seen := by unfold Msg.seenOk; rw [if_pos h.kind]; exact h.set.right hok
 evs := by unfold Msg.evsOk; rw [if_neg (by rw [h.kind]; decide), h.evs]; rfl
theorem IsDigest.small {S : BookS} {self to_ seq : Int} {m : Msg} (h : IsDigest S self to_ seq m) (hok : S.saw.Ok) : m.small where
 more := by have : m.more.length ≤ 768 := (h.set.right hok).2.1; omega
 ms := by rw [h.ms]; exact Nat.zero_le _
 evs := by rw [h.evs]; exact Nat.zero_le _
 rems := fun p hp => by rw [h.evs] at hp; cases hp
structure Sendable (me tt : Int) (m : Msg) : Prop where
 right : m.right
 small : m.small
 frm : m.frm = me
 to_ : m.to_ = tt
theorem Told.delta {x : Gsp} {m : Msg} {ds tail : List Msg} (h : Told x m ds tail) (hok : x.Ok) (hr : m.right) (hto : m.to_ = x.self) {d : Msg} (hd : d ∈ ds) : Sendable x.self m.frm d := by
 obtain ⟨h1, h2, h3, h4, h5, h6, h7, h8⟩ := h.deltas d hd
 obtain ⟨ps, hps, hpc⟩ := h.pieces
 have hne : x.self ≠ m.frm := fun e => hr.ne (by rw [hto, e])
 have hal := hpc.all
 have hin : ∀ p ∈ d.evs, p.2 ∈ newerB x.S m.set.grid 768 := fun p hp => by
  rw [← hps, ← hal]
  exact List.mem_flatten.2 ⟨_, List.mem_map.2 ⟨d, hd, rfl⟩, List.mem_map_of_mem hp⟩
 have hre : ∀ p ∈ d.evs, RightEv p.2 := fun p hp => newerB_right hok.fine (hin p hp)
 have hlen : d.evs.length ≤ 768 := by
  have h9 : (d.evs.map (·.2)).length ≤ ((ds.map fun d => d.evs.map (·.2)).flatten).length := (List.sublist_flatten_of_mem (List.mem_map.2 ⟨d, hd, rfl⟩ : d.evs.map (·.2) ∈ ds.map fun d => d.evs.map (·.2))).length_le
  rw [hal, hps, List.length_map] at h9
  refine Nat.le_trans h9 ?_
  unfold newerB
  rw [List.length_take]
  exact Nat.min_le_left _ _
 refine ⟨⟨by rw [h1]; omega, by rw [h2]; exact hok.self, by rw [h3]; exact hr.frm, by rw [h2, h3]; exact hne, by rw [h8]; exact ⟨(fun m hm => by cases hm), List.Pairwise.nil⟩, by unfold Msg.seqOk; rw [h4, h1]; exact ⟨Int.le_refl 0, by decide⟩, .inr h5, ?_, ?_⟩, ⟨by rw [h7]; exact Nat.zero_le _, by rw [h8]; exact Nat.zero_le _, by omega, fun p hp => ?_⟩, h2, h3⟩
 ·unfold Msg.seenOk
  rw [if_neg (by rw [h1]; decide), h7]
  exact ⟨⟨h6 0, h6 1, h6 2, h6 3, h6 4, h6 5, h6 6, h6 7⟩, rfl⟩
 ·unfold Msg.evsOk
  rw [if_pos h1]
  exact ⟨hre, hlen⟩
 ·have := (hre p hp).2.2.2.1
  omega
def ev22 : Ev := ⟨⟨0, 1⟩, 1, 1, 0, 0, polZero, []⟩
def S22 : BookS := takeB BookS.new ev22
theorem add22 : addB BookS.new ev22 = (0, S22) := by
 unfold addB
 rw [if_pos (show RightEv ev22 by decide), if_neg (show ¬ BookS.new.sees ev22.dot = true by decide)]
 rfl
theorem fine22 : S22.Fine := by
 have h1 := addB_fine fine_new ev22
 rw [add22] at h1
 exact h1
theorem given22 : (givenB BookS.new [ev22]).2 = [ev22] := by
 unfold givenB
 rw [List.foldl_cons, List.foldl_nil, add22]
 rfl
theorem onceL_one (n : Int) : onceL [n] = [n] := by
 unfold onceL
 rw [List.mergeSort_singleton]
 rfl
theorem someL_one (s n : Int) : someL s [n] 1 = [n] := by
 unfold someL
 rw [onceL_one]
 rfl
theorem tickL_one : tickL 1 [0] = [0] := by decide
theorem newer22 : newerB S22 Grid.none 768 = [ev22] := rfl
theorem dots_none : dotsOf Grid.none = [] := by
 cases h : dotsOf Grid.none with
 | nil => rfl
 | cons d l =>
  have h1 : d ∈ dotsOf Grid.none := by rw [h]; exact List.mem_cons_self
  have h2 := ((mem_dotsOf Grid.none_ok).1 h1).2
  cases h2
theorem Pieces.one {mtu : Nat} {ps : List PEv} {cs : List (List Ev)} (h : Pieces mtu ps cs) (hl : ps.length = 1) : cs = [ps.map (·.2)] := by
 cases h with
 | nil => cases hl
 | @cons l n cs h1 h2 h3 =>
  have h4 := h2.le
  have hn : n = ps.length := by omega
  subst hn
  rw [List.take_length]
  rw [List.drop_length] at h3
  cases h3 with
  | nil => rfl
  | cons k1 k2 k3 => have := k2.le; simp at this; omega
theorem told22 {x : Gsp} {d : Msg} {ds tail : List Msg} (hS : x.S = S22) (hd : IsDigest BookS.new 1 0 0 d) (h : Told x d ds tail) : tail = [] ∧ ∃ y, ds = [y] ∧ y.evs.map (·.2) = [ev22] := by
 have hg : d.set.grid = Grid.none := hd.set.grid fine_new.ok
 have ht := h.tail
 have ha : asksB x.S d = false := by
  unfold asksB
  rw [hg, dots_none]
  simp
 rw [ha, if_neg (by decide)] at ht
 refine ⟨ht, ?_⟩
 obtain ⟨ps, hps, hpc⟩ := h.pieces
 rw [hg, hS, newer22] at hps
 have hl : ps.length = 1 := by have := congrArg List.length hps; simpa using this
 have h1 := hpc.one hl
 rw [hps] at h1
 cases ds with
 | nil => cases h1
 | cons y l =>
  simp only [List.map_cons, List.cons.injEq, List.map_eq_nil_iff] at h1
  obtain ⟨h2, rfl⟩ := h1
  exact ⟨y, rfl, h2⟩
end Go.Proofs.YtenkfnhcdfmkaaaGreat
namespace Go.Proofs.YtenkfnhcdfmkaaaGreat
open Go.Shelf Go.RowKit Go.Lib Go.Sort
set_option linter.unusedVariables false
set_option linter.unusedSimpArgs false
theorem msgRow_load {w : World} {g off n cap : Nat} {l : List Msg} (hs : SlAt Msg.cells w (.slice (some ⟨g, off, none⟩) n cap) l) {i : Nat} (hi : i < l.length) : Sem.run Tryz.prog (loadCellsFrom ⟨g, off + i * 16, none⟩ 0 16 #[]) w = .ok (l[i].cells).toArray w := by
 refine run_loadCellsFrom_list Tryz.prog w ⟨g, off + i * 16, none⟩ (l[i].cells) 16 (Msg.cells_len _) fun j v hv => ?_
 rw [Addr.add_lit]
 have hj : j < 16 := by have := (List.getElem?_eq_some_iff.1 hv).1; rwa [Msg.cells_len] at this
 have := hs.cell Msg.cells_len (i := i) (c := j) hi hj
 rw [show off + i * 16 + j = off + (i * 16 + j) by omega, this, hv]
theorem MRow.one {B : Nat} {w : World} {v : Value} {m : Msg} (h : MRow B w v [m]) : ∃ g cap, v = .slice (some ⟨g, 0, none⟩) 1 cap ∧ B ≤ g ∧ g < w.heap.size ∧ Sem.run Tryz.prog (loadCellsFrom ⟨g, 0, none⟩ 0 16 #[]) w = .ok m.cells.toArray w ∧ w.cell? ⟨g, 14, none⟩ = some m.he.val := by
 obtain ⟨oa, cap, hv⟩ := slAt_slice h.row.at
 rw [hv] at h
 have hs := h.row.at
 obtain ⟨g, off, hg⟩ := hs.plain Msg.cells_len (by decide) (by simp)
 subst hg
 have ho : off = 0 := by
  rcases h.row.2 with ⟨h1, _⟩ | ⟨g', cap', cur, hv', _⟩
  ·cases h1
  ·simp only [Value.slice.injEq, Option.some.injEq, Addr.mk.injEq] at hv'
   exact hv'.1.2.1
 subst ho
 have hlt := h.row.lt g rfl
 have h14 := hs.cell Msg.cells_len (i := 0) (c := 14) (by simp) (by decide)
 refine ⟨g, cap, hv, hlt.1, hlt.2, ?_, ?_⟩
 ·have := msgRow_load hs (i := 0) (by simp)
  simpa using this
 ·simpa [Msg.cells] using h14
theorem GAt.above {W W' : World} {M : GM} {x : Gsp} (h : GAt W M x) {C : Nat} (hown : ∀ k, M.own k → C ≤ k) (hg : C ≤ M.g) (hsz : W.heap.size ≤ W'.heap.size) (hk : ∀ i, C ≤ i → i < W.heap.size → W'.heap[i]? = W.heap[i]?) : GAt W' M x := by
 have h0 := h.book.size
 have hbo := hown M.bo (.inl rfl)
 have hbb := hown M.bb (.inr (.inl rfl))
 have hms := hown M.ms (.inr (.inr (.inl rfl)))
 have hmh := hown M.mh (.inr (.inr (.inr rfl)))
 refine ⟨(hk _ hg h.lt).trans h.row, ?_, ⟨h.book.ltb, h.book.lts, h.book.lth, h.book.nbs, h.book.nbh, h.book.nsh, Nat.le_trans h.book.size hsz, (hk _ hbb (by have := h.book.ltb; omega)).trans h.book.obj, ?_, ?_, h.book.may⟩, h.lto, h.nob, h.nos, h.noh, h.ng⟩
 ·obtain ⟨v, h1, h2, h3, h4⟩ := h.ord
  exact ⟨v, h1.keep (hk _ hbo h1.lt), h2.keep (.inl rfl), h3, h4⟩
 ·obtain ⟨Es, k1, k2⟩ := h.book.seen
  exact ⟨Es, k1.keep (hk _ hms (by have := h.book.lts; omega)), k2⟩
 ·obtain ⟨Eh, hs, k1, k2, k3, k4⟩ := h.book.holds
  exact ⟨Eh, hs, k1.keep (hk _ hmh (by have := h.book.lth; omega)), k2, k3, fun p hp => (k4 p hp).keep fun g hg2 => hk g (by have := ((k4 p hp).lt g hg2).1; have := h.book.ltb; omega) ((k4 p hp).lt g hg2).2⟩
theorem mown_clear {B : Nat} {w : World} {m : Msg} {L : Nat → Prop} (h : MOwn B w m) (hL : ∀ k, L k → k < B) : EvsClear L m.he.val m.evs :=
 ⟨.inr fun b hb hl => by have := (h.evs.row.lt b hb).1; have := hL b hl; omega, fun p hp => .inr fun b hb hl => by have := ((h.evs.rem p hp).1.lt b hb).1; have := hL b hl; omega⟩
set_option maxRecDepth 100000 in
set_option maxHeartbeats 8000000 in
theorem alive22_any (w : World) : Calls Tryz.prog 6 #[] w fun e w' => e = .returned (.bool true) ∧ Below w.heap.size w w' := by
 have hn1 := gnew_good 0 512 1 (by decide) (by decide) w
 have HN1 := Lib.hid hn1
 clear hn1
 go_enter Tryz.func6, Tryz.ntmps6
 go_wp2_with fail
 refine HN1.out.mono ?_
 rintro e w1 ⟨M1, rfl, hg1, hb1, hl1, ho1⟩
 have HG1 := Lib.hid hg1
 have HB1 := Lib.hid hb1
 have HO1 := Lib.hid ho1
 have HN2 := Lib.hid (gnew_good 1 512 2 (by decide) (by decide) w1)
 clear hg1 hb1 ho1 HN1
 go_wp2_with fail
 refine HN2.out.mono ?_
 rintro e w2 ⟨M2, rfl, hg2, hb2, hl2, ho2⟩
 have HG2 := Lib.hid hg2
 have HB2 := Lib.hid hb2
 have HO2 := Lib.hid ho2
 have HBK := Lib.hid (gbook_any w2 M1 _ (HG1.out.below hb2 (Nat.le_refl _)))
 have hz2 := hb2.size
 have hz1 := HB1.out.size
 clear hg2 hb2 ho2 HN2
 go_wp2_with fail
 refine HBK.out.mono ?_
 rintro e w3 ⟨rfl, rfl⟩
 have hadd := bookAdd_any M1.bb M1.ms M1.mh M1.B BookS.new ⟨none, 0, 0⟩ ev22 w3 (HG1.out.below HB2.out (Nat.le_refl _)).book (SlAt.nil _ _) (Nat.zero_le _) (.inl rfl) (by decide)
 rw [add22] at hadd
 simp only [ev22, polZero, Hdr.val] at hadd
 have HADD := Lib.hid hadd
 clear hadd HBK
 go_wp2_with fail
 refine HADD.out.mono ?_
 rintro e w4 ⟨rfl, hbk4, ht4⟩
 have hG4 : GAt w4 M1 ⟨0, 512, 1, S22⟩ := (HG1.out.below HB2.out (Nat.le_refl _)).booked hbk4 ht4
 have h1lt : ∀ k, M1.own k → k < w1.heap.size := fun k hk => HG1.out.own_lt hk
 have h1g : M1.g < w1.heap.size := HG1.out.lt
 have hH4 : GAt w4 M2 ⟨1, 512, 2, BookS.new⟩ := HG2.out.above HO2.out hl2 ht4.size fun i hi hlt => ht4.block i hlt (fun e => by have := h1lt _ (.inr (.inl e)); omega) (fun e => by have := h1lt _ (.inr (.inr (.inl e))); omega) (fun e => by have := h1lt _ (.inr (.inr (.inr e))); omega)
 have hT4 : Below w.heap.size w w4 := (HB1.out.trans (HB2.out.mono hz1)).trans (ht4.below (HO1.out _ (.inr (.inl rfl))) (HO1.out _ (.inr (.inr (.inl rfl)))) (HO1.out _ (.inr (.inr (.inr rfl)))) (by omega))
 have HG4 := Lib.hid hG4
 have HH4 := Lib.hid hH4
 have HT4 := Lib.hid hT4
 have hz4 := ht4.size
 have H1LT := Lib.hid h1lt
 clear hbk4 ht4 hG4 hH4 hT4 h1lt HADD HG1 HB1 HB2 HG2
 have hrow : SlAt icells (w4.alloc (.cells #[.int .i64 0] 3)) (.slice (some ⟨w4.heap.size, 0, none⟩) ([0] : List Int).length 1) [0] := slAt_new (enc := icells) w4 #[.int .i64 0] 3 1 1 (0, 0) [0] rfl rfl (by decide)
 have hba : Below w4.heap.size w4 (w4.alloc (.cells #[.int .i64 0] 3)) := (Below.refl _ _).alloc (Nat.le_refl _) _
 have htk := tick_any M2 ⟨1, 512, 2, BookS.new⟩ ⟨by decide, by decide, fine_new⟩ _ _ [0] _ (HH4.out.below hba (Nat.le_refl _)) hrow (by decide)
 have e1 : tickL (Gsp.self ⟨1, 512, 2, BookS.new⟩) [0] = [0] := tickL_one
 rw [e1, show (Gsp.s ⟨1, 512, 2, BookS.new⟩) = 2 from rfl, someL_one] at htk
 simp only [List.length_singleton] at htk
 have HTK := Lib.hid htk
 have HBA := Lib.hid hba
 clear htk hba hrow e1
 go_wp2_with fail
 generalize hwa : w4.alloc (.cells #[.int .i64 0] 3) = wa at *
 refine HTK.out.mono ?_
 rintro e w5 ⟨v, msl, rfl, hmr, hid, hto, hg5, ht5⟩
 obtain ⟨d, rfl, hdt⟩ : ∃ d, msl = [d] ∧ d.to_ = 0 := by
  cases msl with
  | nil => cases hto
  | cons d l =>
   simp only [List.map_cons, List.cons.injEq, List.map_eq_nil_iff] at hto
   exact ⟨d, by rw [hto.2], hto.1⟩
 have hdg : IsDigest BookS.new 1 0 0 d := by have := hid d (by simp); rwa [hdt] at this
 have hdr : d.right := hdg.right fine_new.ok (by decide) (by decide) (by decide) (by decide)
 have hds : d.small := hdg.small fine_new.ok
 obtain ⟨g5, cap5, rfl, hg5a, hg5b, hld5, _⟩ := hmr.one
 have hza : w4.heap.size ≤ wa.heap.size := HBA.out.size
 have hbo2 : w1.heap.size ≤ M2.bo := HO2.out _ (.inl rfl)
 have hG5 : GAt w5 M1 ⟨0, 512, 1, S22⟩ := by
  obtain ⟨vo, ho1, _⟩ := (HH4.out.below HBA.out (Nat.le_refl _)).ord
  exact (HG4.out.below HBA.out (Nat.le_refl _)).turn ho1.heap (by decide) ht5.size (fun i hi hne => ht5.block i hi hne) (fun e => by have := H1LT.out _ e; omega) (by omega)
 have hT5 : Below w.heap.size w w5 := (HT4.out.trans (HBA.out.mono (by omega))).trans (ht5.below (by omega) fun n hn => by rw [hn]; omega)
 have hon := gon_any M1 ⟨0, 512, 1, S22⟩ ⟨by decide, by decide, fine22⟩ d hds w5 hG5 (hmr.get (by simp)) (mown_clear (hmr.each d (by simp)).1 fun k hk => by have := H1LT.out k hk; omega)
 have hbad1 : badG ⟨0, 512, 1, S22⟩ d = false := by unfold badG; rw [Msg.rightB_true hdr, hdt]; rfl
 have hz5 := ht5.size
 have HON := Lib.hid hon
 have HMR := Lib.hid hmr
 have HLD := Lib.hid hld5
 have HG5 := Lib.hid hg5
 have HT5 := Lib.hid hT5
 have HDG := Lib.hid hdg
 have HB1 := Lib.hid hbad1
 have HDT := Lib.hid hdt
 have H2LT := Lib.hid (fun k hk => HH4.out.own_lt (k := k) hk)
 clear hto hid hdg hdr hds hmr hg5 ht5 hG5 hT5 hon hbad1 HTK HBA hwa HG4 HH4 HT4 hld5 hdt
 go_wp2_with (refine wpList_loadAgg _ rfl 38 _ rfl 16 (by kernel_rfl) (by kernel_rfl) ⟨g5, 0, none⟩ rfl _ HLD.out ?_)
 refine HON.out.mono ?_
 rintro e w6 hon6
 obtain ⟨v6, ds, tail, rfl, hmr6, htold, hb6⟩ := hon6.told HB1.out HDG.out.kind
 obtain ⟨rfl, y, rfl, hyev⟩ := told22 rfl HDG.out htold
 rw [List.append_nil] at hmr6
 have hyl : y.evs.length = 1 := by have := congrArg List.length hyev; simpa using this
 obtain ⟨g6, cap6, rfl, hg6a, hg6b, hld6, h14⟩ := hmr6.one
 obtain ⟨oe, ce, hhe⟩ := slAt_slice (hmr6.get (m := y) (by simp)).evs.1
 rw [hhe, hyl] at h14
 have hsy := htold.delta ⟨by decide, by decide, fine22⟩ (badG_false HB1.out).1 (badG_false HB1.out).2 (d := y) (by simp)
 have hG6 := HG5.out.below hb6 (Nat.le_refl _)
 have hT6 := HT5.out.trans (hb6.mono HT5.out.size)
 have h2lt : ∀ k, M2.own k → k < w5.heap.size := fun k hk => HG5.out.own_lt hk
 have hon2 := gon_any M2 _ ⟨by decide, by decide, fine_new⟩ y hsy.small w6 hG6 (hmr6.get (by simp)) (mown_clear (hmr6.each y (by simp)).1 h2lt)
 have hbad2 : badG ⟨1, 512, (shufL 2 (onceL [0])).1, BookS.new⟩ y = false := by
  unfold badG
  rw [Msg.rightB_true hsy.right, hsy.to_, HDG.out.frm]; rfl
 have hky : y.kind = 5 := (htold.deltas y (by simp)).1
 have hmr56 := HMR.out.below hb6 (Nat.le_refl _)
 have hz6 := hb6.size
 have HON2 := Lib.hid hon2
 have HLD6 := Lib.hid hld6
 have HBD2 := Lib.hid hbad2
 have HKY := Lib.hid hky
 have HYE := Lib.hid hyev
 have HMR6 := Lib.hid hmr56
 have HT6 := Lib.hid hT6
 clear hon6 htold hmr6 hsy hG6 hT6 hon2 hbad2 hky hyev hyl hhe hmr56 hld6 h2lt hb6 HON HMR HG5 HT5 HLD
 go_wp2_with (refine wpList_loadAgg _ rfl 38 _ rfl 16 (by kernel_rfl) (by kernel_rfl) ⟨g6, 0, none⟩ rfl _ HLD6.out ?_)
 refine HON2.out.mono ?_
 rintro e w7 hon7
 obtain ⟨⟨da, dn, dc⟩, qs, rfl, hacc, hqs, hga, ht7⟩ := hon7.given HBD2.out HKY.out
 rw [HYE.out, given22] at hqs
 have hql : qs.length = 1 := by have := congrArg List.length hqs; simpa using this
 obtain ⟨oq, cq, hdv⟩ := slAt_slice hacc.row.at
 rw [hql] at hdv
 simp only [Hdr.val, Value.slice.injEq] at hdv
 obtain ⟨rfl, rfl, rfl⟩ := hdv
 simp only [Hdr.val]
 have hmr7 : MRow wa.heap.size w7 (.slice (some ⟨g5, 0, none⟩) 1 cap5) [d] := HMR6.out.keep fun g h1 h2 => ht7.block g h2 fun e => by have := H2LT.out g e; omega
 have hld7 := msgRow_load hmr7.row.at (i := 0) (by simp)
 have hT7 : RowKit.Below w.heap.size w w7 := HT6.out.trans (ht7.below (by have := HT6.out.size; omega) fun n hn => by have := HO2.out n hn; omega)
 simp only [Nat.zero_mul, Nat.add_zero, List.getElem_cons_zero] at hld7
 have HLD7 := Lib.hid hld7
 have HT7 := Lib.hid hT7
 have HNI := Lib.hid (gon_nil d w7)
 clear hon7 hacc hqs hga ht7 hql hmr7 hld7 hT7 HON2 HLD6 HMR6 HT6
 go_wp2_with (refine wpList_loadAgg _ rfl 38 _ rfl 16 (by kernel_rfl) (by kernel_rfl) ⟨g5, 0, none⟩ rfl _ HLD7.out ?_)
 refine HNI.out.mono ?_
 rintro e w8 ⟨rfl, hb8⟩
 have HT8 := Lib.hid (HT7.out.trans (hb8.mono HT7.out.size))
 clear hb8 HNI HLD7
 go_wp2_with fail
 go_ret
 exact ⟨rfl, HT8.out⟩
end Go.Proofs.YtenkfnhcdfmkaaaGreat
