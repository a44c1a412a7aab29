/-
  The law ProbeTold walked: it returns true, and turns nothing that was there.
-/
import Derived.Test.YtjffaekajjokiaaLaw19a
namespace Go.Proofs.Ytjffaekajjokiaa
open Go.Shelf Go.RowKit Go.Lib Go.Sort
set_option linter.unusedVariables false
def mostI : List PO → Int → Int
  | [], a => a
  | p :: ps, a => mostI ps (max a p.nodes.length)
theorem mostI_snoc (ps : List PO) (p : PO) (a : Int) : mostI (ps ++ [p]) a = max (mostI ps a) p.nodes.length := by
  induction ps generalizing a with
  | nil => rfl
  | cons q ps ih => exact ih _
theorem mostI_le : ∀ (ps : List PO) (a : Int), a ≤ mostI ps a ∧ ∀ p ∈ ps, (p.nodes.length : Int) ≤ mostI ps a
  | [], a => ⟨Int.le_refl _, fun p hp => nomatch hp⟩
  | q :: ps, a => by
    obtain ⟨h1, h2⟩ := mostI_le ps (max a q.nodes.length)
    rw [mostI]
    refine ⟨by omega, fun p hp => ?_⟩
    rcases List.mem_cons.1 hp with rfl | hp
    · omega
    · exact h2 p hp
theorem mostI_ub (n : Int) : ∀ (ps : List PO) (a : Int), a ≤ n → (∀ p ∈ ps, (p.nodes.length : Int) ≤ n) → mostI ps a ≤ n
  | [], a, h, _ => h
  | q :: ps, a, h, h2 => mostI_ub n ps _ (by have := h2 q (by simp); omega) fun p hp => h2 p (List.mem_cons_of_mem _ hp)
set_option maxRecDepth 100000 in
set_option maxHeartbeats 4000000 in
theorem great1_any (oa : Option Addr) (cap : Nat) (ps : List PO) (w : World) (h : OpsAt w (.slice oa ps.length cap) ps) (hl : ps.length ≤ 300) (hf : ∀ p ∈ ps, p.nodes.length ≤ 3000) :
    Calls Try.prog 12 #[.slice oa ps.length cap] w fun e w' => e = .returned (.int .i64 (mostI ps 0 + 1)) ∧ Below w.heap.size w w' := by
  have HE := Lib.hid h
  have h0 := (mostI_le ps 0).1
  have h1 := mostI_ub 3000 ps 0 (by decide) (fun p hp => by have := hf p hp; omega)
  obtain ⟨M, hM⟩ : ∃ M, M = mostI ps 0 := ⟨_, rfl⟩
  rw [← hM] at h0 h1 ⊢
  have HMM := Lib.hid hM
  clear h hf hM
  go_enter Try.func12, Try.ntmps12
  go_wp2_with fail
  go_loopg [3, 8] ps.length (fun gk s3 s8 wr => ∃ (i : Nat), s8 = .int .i64 i ∧ s3 = .int .i64 (mostI (ps.take i) 0) ∧ i ≤ ps.length ∧ ps.length - i ≤ gk ∧ Hid (Below w.heap.size w wr))
  case atStart => exact ⟨0, rfl, rfl, Nat.zero_le _, Nat.le_refl _, Below.refl _ _⟩
  case round =>
    obtain ⟨i, rfl, rfl, hi, hg, HB⟩ := hrel
    by_cases hlt : i < ps.length
    · have hltz : (i : Int) < (ps.length : Int) := by omega
      have hsl := HE.out.below HB.out (Nat.le_refl _)
      obtain ⟨b, off, rfl⟩ := hsl.1.plain ocells_len (by decide) (by intro e; rw [e] at hlt; exact absurd hlt (by simp))
      obtain ⟨oa1, c1, nodes, s, k, hp, hn, d0, d1, d2⟩ := hsl.op i hlt
      have htk : mostI (ps.take (i + 1)) 0 = max (mostI (ps.take i) 0) nodes.length := by
        rw [List.take_succ_eq_append_getElem hlt, (List.getElem?_eq_some_iff.1 hp).2, mostI_snoc]
      have HTK := Lib.hid htk
      generalize mostI (ps.take i) 0 = sm at *
      clear hsl hp hn htk
      go_wp2_with fail
      go_roundg (ps.length - (i + 1))
      case measure => omega
      case rel => exact ⟨i + 1, by go_num, by rw [HTK.out], by omega, Nat.le_refl _, HB.out.alloc HB.out.size _⟩
    · have hltz : ¬ (i : Int) < (ps.length : Int) := by omega
      obtain rfl : i = ps.length := by omega
      rw [List.take_length, ← HMM.out]
      have hw : IntKind.i64.wrap (M + 1) = M + 1 := by rw [IntKind.wrap_i64]; omega
      go_wp2_with fail
      go_ret
      exact ⟨rfl, HB.out⟩
/-- how long who is told all the while may have to wait yet -/
structure Wait (al : Int) (m waits : Nat) (ws : List Int) : Prop where
  nodup : ws.Nodup
  len : ws.length + 1 ≤ m
  off : al ∉ ws → waits + ws.length + 1 ≤ m
  on : al ∈ ws → waits + ws.length + 1 ≤ 2 * m
theorem Wait.start (al : Int) (m : Nat) (h : 1 ≤ m) : Wait al m 0 [] := ⟨List.nodup_nil, by simpa using h, fun _ => by simpa using h, fun h => by cases h⟩
theorem Wait.le {al : Int} {m waits : Nat} {ws : List Int} (h : Wait al m waits ws) : waits ≤ 2 * m := by
  by_cases ha : al ∈ ws
  · have := h.on ha; omega
  · have := h.off ha; omega
theorem wait_pop {al x : Int} {m waits : Nat} {L : List Int} (hn : L.Nodup) (hl : L.length ≤ m) (hx : L.head? = some x) (hw : al ∉ L → waits + L.length + 1 ≤ m) (hw2 : al ∈ L → waits + L.length + 1 ≤ 2 * m) (h1 : 1 ≤ m) : Wait al m (if x = al then 0 else waits + 1) L.tail := by
  cases L with
  | nil => cases hx
  | cons y L =>
    obtain rfl : y = x := by simpa using hx
    have hc := List.nodup_cons.1 hn
    simp only [List.length_cons] at hl hw hw2
    simp only [List.tail_cons]
    by_cases he : y = al
    · subst he
      rw [if_pos rfl]
      exact ⟨hc.2, by omega, fun _ => by omega, fun h => absurd h hc.1⟩
    · rw [if_neg he]
      refine ⟨hc.2, by omega, fun h => ?_, fun h => ?_⟩
      · have := hw (by simp [h, Ne.symm he]); omega
      · have := hw2 (by simp [h]); omega
theorem wait_step {al x s : Int} {m waits : Nat} {ws nodes : List Int} (h : Wait al m waits ws) (ha : al ∈ nodes) (hm : nodes.length ≤ m) (hl : nodes.length ≤ 900000) (h1 : 1 ≤ m) (hx : (nextL s ws nodes).2.head? = some x) :
    x ∈ nodes ∧ Wait al m (if x = al then 0 else waits + 1) (nextL s ws nodes).2.tail := by
  have hfe : ∀ y, y ∈ ws.filter (fun x => !goneL nodes x) ↔ y ∈ ws ∧ y ∈ nodes := fun y => by rw [List.mem_filter]; simp [goneL]
  have hfl := List.length_filter_le (fun x => !goneL nodes x) ws
  unfold nextL at hx ⊢
  split at hx
  · rename_i he
    rw [if_pos he]
    obtain ⟨k1, k2, k3⟩ := shuf_nodup s nodes hl
    have hna : al ∉ ws := fun hw => by
      have := (hfe al).2 ⟨hw, ha⟩
      rw [he] at this
      cases this
    have hoff := h.off hna
    refine ⟨(k2 x).1 (List.mem_of_mem_head? (by rw [hx]; rfl)), wait_pop (L := (shufL s (onceL nodes)).2) k1 (by omega) hx (fun hc => absurd ((k2 al).2 ha) hc) (fun _ => by omega) h1⟩
  · rename_i he
    rw [if_neg he]
    have hlen := h.len
    refine ⟨((hfe x).1 (List.mem_of_mem_head? (by rw [hx]; rfl))).2, wait_pop (L := ws.filter (fun x => !goneL nodes x)) (h.nodup.filter _) (by omega) hx (fun hc => ?_) (fun hc => ?_) h1⟩
    · have hna : al ∉ ws := fun hw => hc ((hfe al).2 ⟨hw, ha⟩)
      have := h.off hna
      omega
    · have := h.on ((hfe al).1 hc).1
      omega
theorem owns_none_made {e : Nat} (W : World) (n : Nat) (hn : W.heap.size = n) : Owns icells 1 n e (W.alloc (.cells #[] e)) (.slice (some ⟨n, 0, none⟩) 0 0) [] := by
  subst hn
  exact World.ownsRow_made W #[] 0 (Nat.le_refl _) (by decide) rfl
/-- what holds on the way through a step: H: all that is named lies ahead of it -/
structure Tl (w : World) (b1 n8 H : Nat) (x0 x1 x2 v9 : Value) (nodes : List Int) (s : Int) (ws : List Int) (W : World) : Prop where
  o1 : Obj 45 b1 (b1 + 1) W s ws
  inn : SlAt icells W v9 nodes
  blk : W.heap[n8]? = some (.cells #[x0, x1, x2] 34)
  below : Below w.heap.size w W
  hle : H ≤ W.heap.size
  v9b : ∀ g, v9.ownBlock = some g → b1 + 1 ≤ g ∧ g < H
  n8b : b1 + 1 ≤ n8
  n8h : n8 < H
  wb : w.heap.size ≤ b1
section
variable {w W W' : World} {b1 n8 H : Nat} {x0 x1 x2 v9 : Value} {nodes : List Int} {s s' : Int} {ws ws' : List Int}
theorem Tl.cell0 (h : Tl w b1 n8 H x0 x1 x2 v9 nodes s ws W) : W.cell? ⟨n8, 0, none⟩ = some x0 := by rw [cell_of_row _ n8 0 _ _ _ h.blk]; rfl
theorem Tl.cell1 (h : Tl w b1 n8 H x0 x1 x2 v9 nodes s ws W) : W.cell? ⟨n8, 1, none⟩ = some x1 := by rw [cell_of_row _ n8 1 _ _ _ h.blk]; rfl
theorem Tl.cell2 (h : Tl w b1 n8 H x0 x1 x2 v9 nodes s ws W) : W.cell? ⟨n8, 2, none⟩ = some x2 := by rw [cell_of_row _ n8 2 _ _ _ h.blk]; rfl
theorem Tl.one (h : Tl w b1 n8 H x0 x1 x2 v9 nodes s ws W) (hg : W.grownBy W' (some b1)) (o1 : Obj 45 b1 (b1 + 1) W' s' ws') : Tl w b1 n8 H x0 x1 x2 v9 nodes s' ws' W' where
  o1 := o1
  inn := h.inn.grown icells_len (by decide) hg (.inr fun e => by have := h.v9b b1 e; omega)
  blk := (hg.block n8 (Array.getElem?_eq_some_iff.1 h.blk).1 (fun e => by have := h.n8b; simp only [Option.some.injEq] at e; omega)).trans h.blk
  below := h.below.grown hg h.below.size fun k hk => by cases hk; exact h.wb
  hle := Nat.le_trans h.hle hg.size
  v9b := h.v9b
  n8b := h.n8b
  n8h := h.n8h
  wb := h.wb
theorem Tl.map {bm nm : Nat} {S : List Int} (h : Tl w b1 n8 H x0 x1 x2 v9 nodes s ws W) (hm : IsSet W bm nm S) (hH : H ≤ bm) (hg : W.grownBy W' (some bm)) : Tl w b1 n8 H x0 x1 x2 v9 nodes s ws W' where
  o1 := obj_of_map h.o1 hm hg (by have := h.n8b; have := h.n8h; omega)
  inn := h.inn.grown icells_len (by decide) hg (.inr fun e => by have := h.v9b bm e; omega)
  blk := (hg.block n8 (Array.getElem?_eq_some_iff.1 h.blk).1 (fun e => by have := h.n8h; simp only [Option.some.injEq] at e; omega)).trans h.blk
  below := h.below.grown hg h.below.size fun k hk => by cases hk; have := h.n8b; have := h.n8h; have := h.wb; omega
  hle := Nat.le_trans h.hle hg.size
  v9b := h.v9b
  n8b := h.n8b
  n8h := h.n8h
  wb := h.wb
theorem Tl.later (h : Tl w b1 n8 H x0 x1 x2 v9 nodes s ws W) (hb : Below W.heap.size W W') : Tl w b1 n8 H x0 x1 x2 v9 nodes s ws W' where
  o1 := h.o1.below hb (Nat.le_refl _)
  inn := h.inn.below icells_len (by decide) hb (Nat.le_refl _)
  blk := (hb.block n8 (Array.getElem?_eq_some_iff.1 h.blk).1).trans h.blk
  below := h.below.trans (hb.mono h.below.size)
  hle := Nat.le_trans h.hle hb.size
  v9b := h.v9b
  n8b := h.n8b
  n8h := h.n8h
  wb := h.wb
end
set_option maxRecDepth 100000 in
set_option maxHeartbeats 8000000 in
theorem lawTold (seed : Int) (oa : Option Addr) (cap : Nat) (ps : List PO) (al : Int) (w : World) (h : OpsAt w (.slice oa ps.length cap) ps) (hl : ps.length ≤ 1000000000000000) (hf : ∀ p ∈ ps, p.nodes.length ≤ 17592186044416) (hfi : ∀ p ∈ ps, ∀ z ∈ p.nodes, Fits z) (ha : Fits al) :
    Calls Try.prog 4 #[.int .u64 seed, .slice oa ps.length cap, .int .i64 al] w fun e w' => e = .returned (.bool true) ∧ RowKit.Below w.heap.size w w' := by
  have HE := Lib.hid h
  have HFI := Lib.hid hfi
  have AL := Lib.hid alive_any
  clear h hfi
  go_enter Try.func4, Try.ntmps4
  go_wp2_with fail
  refine (AL.out _).mono ?_
  rintro e w1 ⟨rfl, hb1⟩
  have HE1 := Lib.hid (HE.out.below hb1 (Nat.le_refl _))
  have HB1 := Lib.hid hb1
  clear hb1
  have hg := great_any oa cap ps w1 HE1.out hl
  have HG := Lib.hid hg
  clear hg
  go_wp2_with fail
  refine HG.out.mono ?_
  rintro e w2 ⟨rfl, hb2⟩
  have HB2 := Lib.hid (HB1.out.trans (hb2.mono HB1.out.size))
  clear hb2 HE1 HB1 HG
  cases hgr : greatB ps with
  | true =>
    go_wp2_with fail
    go_ret
    exact ⟨rfl, HB2.out⟩
  | false =>
    obtain ⟨hp1, hp2⟩ := great_not hgr hf
    have HP2 := Lib.hid hp2
    obtain ⟨M, hM⟩ : ∃ M : Nat, mostI ps 0 + 1 = (M : Int) := ⟨(mostI ps 0 + 1).toNat, by have := (mostI_le ps 0).1; omega⟩
    have hM1 : 1 ≤ M := by have := (mostI_le ps 0).1; omega
    have hM2 : M ≤ 3001 := by have := mostI_ub 3000 ps 0 (by decide) (fun p hp => by have := hp2 p hp; omega); omega
    have HPM := Lib.hid (show ∀ p ∈ ps, p.nodes.length + 1 ≤ M from fun p hp => by have := (mostI_le ps 0).2 p hp; omega)
    have HMM := Lib.hid hM
    clear hp2 hgr hf hM
    have hn := new_any seed w2
    have HN := Lib.hid hn
    clear hn
    go_wp2_with fail
    refine HN.out.mono ?_
    rintro e w3 ⟨rfl, hw3⟩
    obtain ⟨b1, hb1⟩ : ∃ b, b = w2.heap.size := ⟨_, rfl⟩
    have hz3 : b1 + 1 ≤ w3.heap.size := by rw [hw3, hb1]; simp
    rw [← hb1]
    have HO3 := Lib.hid (show Obj 45 b1 (b1 + 1) w3 seed [] by rw [hw3, hb1]; exact obj_at (obj_new w2 seed) (Nat.lt_succ_self _))
    have HB3 := Lib.hid (show Below w.heap.size w w3 by rw [hw3]; exact HB2.out.alloc HB2.out.size _)
    have hbw : w.heap.size ≤ b1 := by rw [hb1]; exact HB2.out.size
    clear hw3 HN HB2 hb1
    go_wp2_with fail
    go_loopg [8, 28] ps.length (fun gk s8 s28 wr => ∃ (i waits : Nat) (s : Int) (ws : List Int), s28 = .int .i64 i ∧ s8 = .int .i64 waits ∧ i ≤ ps.length ∧ ps.length - i ≤ gk ∧ Hid (Obj 45 b1 (b1 + 1) wr s ws) ∧ Hid (Wait al M waits ws) ∧ Hid (Below w.heap.size w wr) ∧ b1 + 1 ≤ wr.heap.size)
    case atStart => exact ⟨0, 0, seed, [], rfl, rfl, Nat.zero_le _, Nat.le_refl _, HO3, Wait.start al M hM1, HB3, hz3⟩
    case round =>
      clear HO3 HB3 hz3
      obtain ⟨i, waits, s, ws, rfl, rfl, hi, hg, HO, HW, HB, hz⟩ := hrel
      by_cases hlt : i < ps.length
      · have hltz : (i : Int) < (ps.length : Int) := by omega
        have hsl := HE.out.below HB.out (Nat.le_refl _)
        obtain ⟨b, off, rfl⟩ := hsl.1.plain ocells_len (by decide) (by intro e; rw [e] at hlt; exact absurd hlt (by simp))
        obtain ⟨oa1, c1, nodes, sm, k, hp, hn, d0, d1, d2⟩ := hsl.op i hlt
        have hpm := List.mem_of_getElem? hp
        have hnl : nodes.length ≤ 3000 := HP2.out _ hpm
        have hnm : nodes.length + 1 ≤ M := HPM.out _ hpm
        have HNF := Lib.hid (HFI.out _ hpm)
        have HN := Lib.hid hn
        clear hsl hp hn hpm
        obtain ⟨n8, hn8⟩ : ∃ n, n = wr.heap.size := ⟨_, rfl⟩
        go_wp2_with (at_builtin; go_loud (refine wpList_app icells 1 icells_len (by decide) icells_one _ rfl _ _ 23 rfl (wr.heap.size + 1) 3 _ 8 Try.underlying23 infoInt rfl _ [] rfl ?h1 _ nodes rfl ?h2 ?h3 ?h4 ?h5 ?_))
        case h1 => exact owns_none_made _ _ (by simp)
        case h2 => exact (HN.out.below icells_len (by decide) ((Below.refl _ _).alloc (Nat.le_refl _) _) (Nat.le_refl _)).below icells_len (by decide) ((Below.refl _ _).alloc (Nat.le_refl _) _) (Nat.le_refl _)
        case h3 => first | omega | (simp only [List.length_nil]; omega)
        case h4 => first | omega | (simp only [List.length_nil]; omega)
        intro v9 w5 h9 hg9 hv9
        have hb5 : Below wr.heap.size wr w5 := (((Below.refl _ _).alloc (Nat.le_refl _) _).alloc (by simp) _).grown hg9 (by simp; omega) fun k hk => by simp [Value.ownBlock] at hk; omega
        have hk5 : w5.heap[wr.heap.size]? = some (.cells #[.slice oa1 nodes.length c1, .bool sm, .int .i64 k] 34) := by
          have e2 := ((Below.refl (wr.heap.size + 1) (wr.alloc (.cells #[.slice oa1 nodes.length c1, .bool sm, .int .i64 k] 34))).alloc (by simp) (.cells #[] 3)).block wr.heap.size (Nat.lt_succ_self _)
          exact ((hg9.block wr.heap.size (by simp; omega) (by simp [Value.ownBlock])).trans e2).trans (heap_alloc_new wr _)
        have hz5 : wr.heap.size + 1 < w5.heap.size := by have := hg9.size; simp at this; omega
        obtain ⟨o9, c9, rfl⟩ := slAt_slice h9.at
        have H9 := Lib.hid h9
        have HB5 := Lib.hid hb5
        have HK5 := Lib.hid hk5
        clear h9 hg9 hv9 hb5 hk5 d0 d1 d2
        go_wp2_with (at_builtin; go_loud (refine wpList_app icells 1 icells_len (by decide) icells_one _ rfl _ _ 23 rfl (wr.heap.size + 1) 3 _ 8 Try.underlying23 infoInt rfl _ nodes rfl ?k1 _ [al] rfl ?k2 ?k3 ?k4 ?k5 ?_))
        case k1 => exact H9.out.below ((Below.refl _ _).alloc (Nat.le_refl _) _) (Nat.le_refl _)
        case k2 => exact slAt_new (enc := icells) w5 (icells al).toArray 3 1 1 (0, 0) [al] rfl rfl (by decide)
        case k3 => first | omega | (simp only [List.length_cons, List.length_nil]; omega)
        case k4 => first | omega | (simp only [List.length_cons, List.length_nil]; omega)
        case k5 => simp; omega
        intro v10 w6 h10 hg10 hv10
        obtain ⟨nodes1, hn1⟩ : ∃ l, l = nodes ++ [al] := ⟨_, rfl⟩
        have hl1 : nodes1.length ≤ 3001 := by rw [hn1]; simp; omega
        have hlm1 : nodes1.length ≤ M := by rw [hn1]; simp; omega
        have hal1 : al ∈ nodes1 := by rw [hn1]; simp
        have hne1 : nodes1 ≠ [] := by rw [hn1]; simp
        have hnf1 : ∀ z ∈ nodes1, Fits z := by
          rw [hn1]
          intro z hz
          rcases List.mem_append.1 hz with hz | hz
          · exact HNF.out z hz
          · obtain rfl : z = al := by simpa using hz
            exact ha
        rw [← hn1] at h10
        obtain ⟨o10, c10, rfl⟩ := slAt_slice h10.at
        have hb6 : Below wr.heap.size wr w6 := (HB5.out.trans (((Below.refl _ _).alloc (Nat.le_refl _) (.cells #[.int .i64 al] 3)).mono HB5.out.size)).grown hg10 (by simp; omega) fun k hk => by have := (H9.out.lt k hk).1; omega
        have hk6 : w6.heap[wr.heap.size]? = some (.cells #[.slice oa1 nodes.length c1, .bool sm, .int .i64 k] 34) :=
          ((hg10.block wr.heap.size (by simp; omega) (fun e => by have := (H9.out.lt _ e.symm).1; omega)).trans (((Below.refl w5.heap.size w5).alloc (Nat.le_refl _) (.cells #[.int .i64 al] 3)).block wr.heap.size (by omega))).trans HK5.out
        have T0 : Tl w b1 n8 w6.heap.size (.slice oa1 nodes.length c1) (.bool sm) (.int .i64 k) (.slice o10 nodes1.length c10) nodes1 s ws w6 := {
          o1 := HO.out.below hb6 (Nat.le_refl _)
          inn := h10.at
          blk := by rw [hn8]; exact hk6
          below := HB.out.trans (hb6.mono HB.out.size)
          hle := Nat.le_refl _
          v9b := fun g hg => by have := h10.lt g hg; omega
          n8b := by omega
          n8h := by have := hg10.size; simp at this; omega
          wb := hbw }
        have T6 := Lib.hid T0
        have HAL := Lib.hid hal1
        have HNF1 := Lib.hid hnf1
        have HNE1 := Lib.hid hne1
        have hmm := @run_makeMap Try.prog
        rw [← hn8]
        clear h10 hg10 hv10 hb6 hk6 T0 hal1 hnf1 hne1 hn1 H9 HB5 HK5 hz5 HN HNF HO HB hn8 hz
        go_wp2_with fail
        have hbw6 : Below w6.heap.size w6 (w6.alloc (.map #[] 0)) := (Below.refl _ _).alloc (Nat.le_refl _) _
        have T7 := Lib.hid (T6.out.later hbw6)
        have HM7 := Lib.hid (IsSet.made w6)
        clear T6 hbw6
        generalize w6.alloc (.map #[] 0) = w7 at *
        generalize w6.heap.size = bt at *
        go_loopg [42] nodes1.length (fun gk2 s42 wr => ∃ (j : Nat) (S : List Int), s42 = .int .i64 j ∧ j ≤ nodes1.length ∧ nodes1.length - j ≤ gk2 ∧ Hid (Tl w b1 n8 bt (.slice oa1 nodes.length c1) (.bool sm) (.int .i64 k) (.slice o10 nodes1.length c10) nodes1 s ws wr) ∧ Hid (IsSet wr bt j S) ∧ Hid (∀ x, x ∈ S ↔ x ∈ nodes1.take j))
        case atStart => exact ⟨0, [], rfl, Nat.zero_le _, Nat.le_refl _, T7, HM7, by show ∀ x, _; simp⟩
        case round =>
          clear T7 HM7
          obtain ⟨j, S, rfl, hj, hgj, T, HM, HSS⟩ := hrel
          by_cases hjl : j < nodes1.length
          · have hjz : (j : Int) < (nodes1.length : Int) := by omega
            have hsl := T.out.inn
            obtain ⟨b, off, rfl⟩ := hsl.plain icells_len (by decide) (by intro e; rw [e] at hjl; exact absurd hjl (by simp))
            obtain ⟨x, hx⟩ : ∃ x, x = nodes1[j]'hjl := ⟨_, rfl⟩
            have d0 : wr.cell? ⟨b, off + j, none⟩ = some (.int .i64 x) := by
              have := hsl.cell icells_len (i := j) (c := 0) hjl (by decide)
              simpa [icells, hx] using this
            have hxf : Fits x := by rw [hx]; exact HNF1.out _ (List.getElem_mem hjl)
            have hss : ∀ y, y ∈ addS S x ↔ y ∈ nodes1.take (j + 1) := fun y => by rw [mem_addS, HSS.out, List.take_succ_eq_append_getElem hjl, List.mem_append, List.mem_singleton, hx]
            obtain ⟨w8, hst, hm8, hg8⟩ := HM.out.store x hxf (by omega)
            have T8 := Lib.hid (T.out.map HM.out (Nat.le_refl _) hg8)
            have HM8 := Lib.hid hm8
            have HSS8 := Lib.hid hss
            clear hsl hx hxf hss hm8 hg8
            go_wp2_with fail
            go_roundg (nodes1.length - (j + 1))
            case measure => omega
            case rel => exact ⟨j + 1, addS S x, by go_num, by omega, Nat.le_refl _, T8, HM8, HSS8⟩
          · have hjz : ¬ (j : Int) < (nodes1.length : Int) := by omega
            obtain rfl : j = nodes1.length := by omega
            have hss := HSS.out
            rw [List.take_length] at hss
            have HTS := Lib.hid hss
            have d1 := T.out.cell1
            clear hss HSS
            generalize hw8 : wr = w8 at *
            cases sm with
            | true =>
              have hbw9 : Below w8.heap.size w8 (w8.alloc (.map #[] 0)) := (Below.refl _ _).alloc (Nat.le_refl _) _
              have T9 := Lib.hid (T.out.later hbw9)
              have HM9 := Lib.hid (HM.out.below hbw9 HM.out.lt)
              have HT9 := Lib.hid (IsSet.made w8)
              have hbt : bt < w8.heap.size := HM.out.lt
              have d2 := T9.out.cell2
              have hs9 := some_any b1 (b1 + 1) s ws o10 c10 nodes1 k (w8.alloc (.map #[] 0)) T9.out.o1 T9.out.inn (by omega)
              have HS9 := Lib.hid hs9
              have hz9 : w8.heap.size < (w8.alloc (.map #[] 0)).heap.size := by simp
              clear hs9 hbw9 T HM
              go_wp2_with fail
              generalize w8.alloc (.map #[] 0) = w9 at *
              generalize w8.heap.size = bm at *
              refine HS9.out.mono ?_
              rintro e w10 ⟨v10, rfl, ho10, hr10, hg10⟩
              obtain ⟨k1, k2, k3⟩ := shuf_nodup s nodes1 (by omega)
              obtain ⟨L, hL⟩ : ∃ L, L = someL s nodes1 k := ⟨_, rfl⟩
              have hLn : L.Nodup := by rw [hL]; exact k1.sublist (List.take_sublist _ _)
              have hLm : ∀ y ∈ L, y ∈ nodes1 := fun y hy => (k2 y).1 (List.mem_of_mem_take (by rw [hL] at hy; exact hy))
              have hLl : L.length ≤ 3001 := by rw [hL]; unfold someL; rw [List.length_take]; omega
              rw [← hL] at ho10
              have hgb := T9.out.n8b
              have hgh := T9.out.n8h
              have T10 := Lib.hid (T9.out.one hg10 hr10)
              have HM10 := Lib.hid (HM9.out.kept hg10 (by simp; omega))
              have HT10 := Lib.hid (HT9.out.kept hg10 (by simp; omega))
              obtain ⟨o11, c11, rfl⟩ := slAt_slice ho10.at
              have HO10 := Lib.hid ho10
              have HLN := Lib.hid hLn
              have HLM := Lib.hid hLm
              generalize (shufL s (onceL nodes1)).1 = s5 at *
              clear ho10 hr10 hg10 k1 k2 k3 hL hLn hLm T9 HM9 HT9 HS9 d1 d2
              go_wp2_with fail
              go_loopg [58] L.length (fun gk3 s58 wr => ∃ (j : Nat), s58 = .int .i64 j ∧ j ≤ L.length ∧ L.length - j ≤ gk3 ∧ Hid (Tl w b1 n8 bt (.slice oa1 nodes.length c1) (.bool true) (.int .i64 k) (.slice o10 nodes1.length c10) nodes1 s5 ws wr) ∧ Hid (IsSet wr bt nodes1.length S) ∧ Hid (IsSet wr bm j (L.take j)) ∧ Hid (Ints w9.heap.size wr (.slice o11 L.length c11) L))
              case atStart => exact ⟨0, rfl, Nat.zero_le _, Nat.le_refl _, T10, HM10, HT10, HO10⟩
              case round =>
                clear T10 HM10 HT10 HO10
                obtain ⟨j, rfl, hj, hgj, T, HM, HT, HO⟩ := hrel
                by_cases hjl : j < L.length
                · have hjz : (j : Int) < (L.length : Int) := by omega
                  have hsl := HO.out.at
                  obtain ⟨b, off, rfl⟩ := hsl.plain icells_len (by decide) (by intro e; rw [e] at hjl; exact absurd hjl (by simp))
                  obtain ⟨x, hx⟩ : ∃ x, x = L[j]'hjl := ⟨_, rfl⟩
                  have d0 : wr.cell? ⟨b, off + j, none⟩ = some (.int .i64 x) := by
                    have := hsl.cell icells_len (i := j) (c := 0) hjl (by decide)
                    simpa [icells, hx] using this
                  have hxm : x ∈ nodes1 := HLM.out x (by rw [hx]; exact List.getElem_mem hjl)
                  have hxf : Fits x := HNF1.out x hxm
                  obtain ⟨hni, hadd⟩ := addS_take L j hjl HLN.out
                  rw [← hx] at hni hadd
                  have hlk1 := HM.out.look x hxf
                  rw [decide_eq_true ((HTS.out x).2 hxm)] at hlk1
                  have hlk2 := HT.out.look x hxf
                  rw [decide_eq_false hni] at hlk2
                  obtain ⟨w12, hst, ht12, hg12⟩ := HT.out.store x hxf (by omega)
                  rw [hadd] at ht12
                  have T12 := Lib.hid (T.out.map HT.out (by omega) hg12)
                  have HM12 := Lib.hid (HM.out.kept hg12 (by simp; omega))
                  have HT12 := Lib.hid ht12
                  have HO12 := Lib.hid (HO.out.kept hg12 (.inr fun e => by have := (HO.out.lt _ e).1; omega))
                  clear hsl hx hxm hxf hni hadd ht12 hg12 T HM HT HO
                  go_wp2_with fail
                  go_roundg (L.length - (j + 1))
                  case measure => omega
                  case rel => exact ⟨j + 1, by go_num, by omega, Nat.le_refl _, T12, HM12, HT12, HO12⟩
                · have hjz : ¬ (j : Int) < (L.length : Int) := by omega
                  clear HM HT HO
                  go_wp2_with fail
                  go_roundg (ps.length - (i + 1))
                  case measure => omega
                  case rel => exact ⟨i + 1, waits, s5, ws, by go_num, rfl, by omega, Nat.le_refl _, T.out.o1, HW.out, T.out.below, by have := T.out.hle; omega⟩
            | false =>
              have hgb := T.out.n8b
              have hgh := T.out.n8h
              have hn1 := next_any b1 (b1 + 1) s ws o10 c10 nodes1 w8 T.out.o1 (by have := T.out.hle; omega) T.out.inn HNE1.out (fun g hg => by have := T.out.v9b g hg; omega) (by omega) (by have := HW.out.len; omega)
              have HN1 := Lib.hid hn1
              clear hn1
              go_wp2_with fail
              refine HN1.out.mono ?_
              rintro e w10 ⟨x, rfl, hx, ho10, hg10⟩
              obtain ⟨hxn, hwt⟩ := wait_step HW.out HAL.out hlm1 (by omega) hM1 hx
              have T10 := Lib.hid (T.out.one hg10 ho10)
              have hm10 := HM.out.kept hg10 (by simp; omega)
              have hlk1 := hm10.look x (HNF1.out x hxn)
              rw [decide_eq_true ((HTS.out x).2 hxn)] at hlk1
              have dd := T10.out.cell0
              have hg1 := great1_any (some ⟨b, off, none⟩) cap ps w10 (HE.out.below T10.out.below (Nat.le_refl _)) hp1 HP2.out
              have HG1 := Lib.hid hg1
              have hwl := HW.out.le
              have hwl2 := hwt.le
              have hww : IntKind.i64.wrap ((waits : Int) + 1) = (waits : Int) + 1 := by rw [IntKind.wrap_i64]; omega
              clear hx ho10 hg10 hxn hm10 hg1 T HM HN1
              by_cases hxa : x = al
              · rw [if_pos hxa] at hwt hwl2
                have hxb : (x == al) = true := by simpa using hxa
                have HW2 := Lib.hid hwt
                clear hxa hwt
                by_cases h8 : nodes.length ≤ 8
                · have h8z : (nodes.length : Int) ≤ 8 := by omega
                  have h8b : decide ((nodes.length : Int) ≤ 8) = true := decide_eq_true h8z
                  go_wp2_with fail
                  refine HG1.out.mono ?_
                  rintro e w11 ⟨rfl, hb11⟩
                  have T11 := Lib.hid (T10.out.later hb11)
                  have hle2 : (0 : Int) ≤ 2 * (M : Int) := by omega
                  have hgt : decide ((0 : Int) > 2 * (M : Int)) = false := decide_eq_false (by omega)
                  have hm2 : IntKind.i64.wrap (2 * (M : Int)) = 2 * (M : Int) := by rw [IntKind.wrap_i64]; omega
                  rw [HMM.out]
                  clear hb11 HG1 d1 dd
                  go_wp2_with fail
                  go_roundg (ps.length - (i + 1))
                  case measure => omega
                  case rel => exact ⟨i + 1, 0, _, _, by go_num, by first | rfl | go_num, by omega, Nat.le_refl _, T11.out.o1, HW2.out, T11.out.below, by have := T11.out.hle; have := T11.out.n8b; have := T11.out.n8h; omega⟩
                · have h8z : ¬ (nodes.length : Int) ≤ 8 := by omega
                  have h8b : decide ((nodes.length : Int) ≤ 8) = false := decide_eq_false h8z
                  clear HG1 d1
                  go_wp2_with fail
                  go_roundg (ps.length - (i + 1))
                  case measure => omega
                  case rel => exact ⟨i + 1, 0, _, _, by go_num, by first | rfl | go_num, by omega, Nat.le_refl _, T10.out.o1, HW2.out, T10.out.below, by have := T10.out.hle; have := T10.out.n8b; have := T10.out.n8h; omega⟩

              · rw [if_neg hxa] at hwt hwl2
                have hxb : (x == al) = false := by simpa using hxa
                have HW2 := Lib.hid hwt
                clear hxa hwt
                by_cases h8 : nodes.length ≤ 8
                · have h8z : (nodes.length : Int) ≤ 8 := by omega
                  have h8b : decide ((nodes.length : Int) ≤ 8) = true := decide_eq_true h8z
                  go_wp2_with fail
                  refine HG1.out.mono ?_
                  rintro e w11 ⟨rfl, hb11⟩
                  have T11 := Lib.hid (T10.out.later hb11)
                  have hle2 : ((waits : Int) + 1) ≤ 2 * (M : Int) := by omega
                  have hgt : decide (((waits : Int) + 1) > 2 * (M : Int)) = false := decide_eq_false (by omega)
                  have hm2 : IntKind.i64.wrap (2 * (M : Int)) = 2 * (M : Int) := by rw [IntKind.wrap_i64]; omega
                  rw [HMM.out]
                  clear hb11 HG1 d1 dd
                  go_wp2_with fail
                  go_roundg (ps.length - (i + 1))
                  case measure => omega
                  case rel => exact ⟨i + 1, waits + 1, _, _, by go_num, by first | rfl | go_num, by omega, Nat.le_refl _, T11.out.o1, HW2.out, T11.out.below, by have := T11.out.hle; have := T11.out.n8b; have := T11.out.n8h; omega⟩
                · have h8z : ¬ (nodes.length : Int) ≤ 8 := by omega
                  have h8b : decide ((nodes.length : Int) ≤ 8) = false := decide_eq_false h8z
                  clear HG1 d1
                  go_wp2_with fail
                  go_roundg (ps.length - (i + 1))
                  case measure => omega
                  case rel => exact ⟨i + 1, waits + 1, _, _, by go_num, by first | rfl | go_num, by omega, Nat.le_refl _, T10.out.o1, HW2.out, T10.out.below, by have := T10.out.hle; have := T10.out.n8b; have := T10.out.n8h; omega⟩

      · have hltz : ¬ (i : Int) < (ps.length : Int) := by omega
        go_wp2_with fail
        go_ret
        exact ⟨rfl, HB.out⟩
end Go.Proofs.Ytjffaekajjokiaa
