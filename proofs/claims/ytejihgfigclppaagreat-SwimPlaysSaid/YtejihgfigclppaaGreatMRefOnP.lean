/-
  Laws ahead of the reference's On.
  A message copied: murmurref17.Copy.
  A ping: what the reference's detector answers; a message that asks for nothing.
-/
import Derived.Test.YtejihgfigclppaaGreatMRefLeave
import Derived.Test.YtejihgfigclppaaGreatMTell5
import Derived.Test.YtejihgfigclppaaGreatRef07
import Derived.Test.YtejihgfigclppaaGreatMMem17
import Derived.Test.YtejihgfigclppaaGreatMRef20
namespace Go.Proofs.YtejihgfigclppaaGreat
open Go.Shelf Go.RowKit Go.Lib Go.Sort
set_option linter.unusedVariables false
set_option linter.unusedSimpArgs false
theorem RStepped.after {R R5 : RM} {d' : Det} {out : List Sent} {w w5 : World} {v : Value} {W : World} (h : RStepped R5 d' out w5 v W) (hn : RNew R R5 w) (ht : Touch (fun k => k ∈ R.own) w w5) : RStepped R d' out w v W := by
 obtain ⟨R', ps, a, b, c, e, f⟩ := h
 exact ⟨R', ps, a, b.lower ht.size, c, hn.trans e ht.size, ht.trans f fun n h1 hL => (hn.own n hL).elim id fun h => absurd h1 (by omega)⟩
theorem infoErR : ((Tryz.prog).info? 127).map (fun i => (i.zero, i.size, i.bytes)) = some (some (.agg #[.int .i64 0, .int .i64 0, .int .i64 0, .int .i64 0]), 4, 32) := by kernel_rfl
theorem rcells_ev (R : RM) (d : Det) (v : Value) (l : List Er) : (rcells R d).setIfInBounds 20 v = rcells { R with ev := v } { d with er := l } := rfl
theorem RAt.setEv {W W' : World} {R : RM} {d : Det} (h : RAt W R d) {v : Value} {l : List Er} (hO : Owns Er.cells 4 0 127 W' v l) (hg : W.grownBy W' R.ev.ownBlock) (hv : v.ownBlock = R.ev.ownBlock ∨ ∀ g, v.ownBlock = some g → W.heap.size ≤ g) :
  RAt (W'.setCell ⟨R.g, 20, none⟩ v) { R with ev := v } { d with er := l } ∧ (∀ k ∈ ({ R with ev := v } : RM).own, k ∈ R.own ∨ W.heap.size ≤ k) := by
 obtain ⟨n1, n2, n3, n4, n5⟩ := rnod_ne h.nod
 have ho : ∀ k, k < W.heap.size → k ≠ R.g → R.ev.ownBlock ≠ some k → (W'.setCell ⟨R.g, 20, none⟩ v).heap[k]? = W.heap[k]? := fun k hk h1 h2 => (Below.heap_setCell W' ⟨R.g, 20, none⟩ _ _ h1).trans (hg.block k hk fun e => h2 e.symm)
 have hvg : ∀ b, v.ownBlock = some b → b ≠ R.g := fun b hb => by
  rcases hv with e | e
  ·rw [e] at hb; exact (n4 b hb).1
  ·have := e b hb; have := h.lt; omega
 refine ⟨{
  obj := by
   show (W'.setCell ⟨R.g, 20, none⟩ v).heap[R.g]? = some (.cells (rcells { R with ev := v } { d with er := l }) 83)
   rw [← rcells_ev]
   exact heap_setCell_same W' R.g 20 _ _ _ _ ((hg.block _ h.lt fun e => (n4 R.g e.symm).1 rfl).trans h.obj)
  tab := h.tab.keep (ho _ h.tab.lt n1.symm fun e => (n4 _ e).2.1 rfl)
  ord := h.ord.keep (ho _ h.ord.lt n2.symm fun e => (n4 _ e).2.2 rfl) fun b hb => ho b (h.ord.lt2 b hb) (n5 b hb).1 (n5 b hb).2.2.2
  ers := hO.keep fun b hb => Below.heap_setCell W' ⟨R.g, 20, none⟩ _ _ (hvg b hb)
  nod := ?_
  opn := ⟨h.opn.pr, h.opn.sn⟩ }, fun k hk => ?_⟩
 ·have hnd := h.nod
  have hlt := h.own_lt
  rcases hv with e | e
  ·unfold RM.own at hnd ⊢
   dsimp only
   rw [e]
   exact hnd
  ·cases hvb : v.ownBlock with
   | none =>
    unfold RM.own at hnd ⊢
    dsimp only
    rw [hvb, Option.toList_none, List.nil_append]
    refine List.Nodup.sublist ?_ hnd
    exact List.Sublist.cons_cons _ (List.Sublist.cons_cons _ (List.Sublist.cons_cons _ (List.sublist_append_right _ _)))
   | some b =>
    have hbn : W.heap.size ≤ b := e b hvb
    have hfr : ∀ k ∈ R.own, k ≠ b := fun k hk he => by have := hlt k hk; omega
    unfold RM.own at hnd hfr ⊢
    dsimp only
    rw [hvb]
    simp only [List.nodup_cons, List.mem_cons, List.mem_append, not_or, Option.mem_toList, List.nodup_append, Option.some.injEq] at hnd hfr ⊢
    obtain ⟨⟨a1, a2, a3, a4⟩, ⟨b1, b2, b3⟩, ⟨c1, c2⟩, d1, e1, g1⟩ := hnd
    have gb := hfr R.g (.inl rfl)
    have tb := hfr R.gt (.inr (.inl rfl))
    have ob := hfr R.go (.inr (.inr (.inl rfl)))
    refine ⟨⟨a1, a2, fun x => gb x.symm, a4⟩, ⟨b1, fun x => tb x.symm, b3⟩, ⟨fun x => ob x.symm, c2⟩, by simp, e1, ?_⟩
    intro a ha b' hb' hab
    exact hfr b' (.inr (.inr (.inr (.inr hb')))) (by omega)
 ·simp only [RM.own, List.mem_cons, List.mem_append, Option.mem_toList] at hk ⊢
  rcases hk with x | x | x | x | x
  ·exact .inl (.inl x)
  ·exact .inl (.inr (.inl x))
  ·exact .inl (.inr (.inr (.inl x)))
  ·rcases hv with e | e
   ·exact .inl (.inr (.inr (.inr (.inl (by rw [← e]; exact x)))))
   ·exact .inr (e k x)
  ·exact .inl (.inr (.inr (.inr (.inr x))))
theorem ack_gone {d : Det} {m : Got} (hp : ¬ d.pr = some (m.seq, m.node)) (h : ∀ (j : Nat) (hj : j < d.er.length), ¬ (d.er[j].num = m.seq ∧ d.er[j].node = m.node)) : d.ack m = (d, []) := by
 unfold Det.ack
 rw [if_neg hp, List.findIdx?_eq_none_iff.2]
 intro x hx
 obtain ⟨j, hj, rfl⟩ := List.getElem_of_mem hx
 exact decide_eq_false (h j hj)
theorem ack_here {d : Det} {m : Got} {i : Nat} (hp : ¬ d.pr = some (m.seq, m.node)) (hi : i < d.er.length) (h : ∀ (j : Nat) (hj : j < i), ¬ ((d.er[j]'(by omega)).num = m.seq ∧ (d.er[j]'(by omega)).node = m.node)) (he : d.er[i].num = m.seq ∧ d.er[i].node = m.node) : d.ack m = ({ d with er := d.er.take i ++ d.er.drop (i + 1) }, [d.send 2 d.er[i].frm d.er[i].seq d.er[i].node]) := by
 unfold Det.ack
 rw [if_neg hp, List.findIdx?_eq_some_iff_getElem.2 ⟨hi, decide_eq_true he, fun j hj hd => h j hj (of_decide_eq_true hd)⟩]
 dsimp only
 rw [List.getElem?_eq_getElem hi, List.eraseIdx_eq_take_drop_succ]
section
variable {P : Program} {ops : Array Oper} {Q : Exit → Act → World → Prop}
theorem leaves_app0 {α : Type} (enc : α → List Value) (k : Nat) (hk : ∀ x, (enc x).length = k) (k0 : 0 < k) (h1 : ∀ x, ∀ v ∈ enc x, v.oneCell' = true)
  {i d : Nat} {o : Oper} {a : Act} {w : World} {F : Value → World → Prop} (hi : ops[i]? = some o) (hd : o.dst = some d) (hgd : o.guard = none) (s x : Operand) (t : TypeId)
  (ho : o.op = .call { callee := .builtin .append, args := #[s, x], argTypes := #[t, t] })
  (base : Nat) (e : TypeId) (z : Value) (bytes : Nat) (ht : P.underlying t = some (.slice e)) (hinfo : (P.info? e).map (fun i => (i.zero, i.size, i.bytes)) = some (some z, k, bytes)) (hzs : z.cells.size = k)
  (g : Nat) (hs : a.eval s = .slice (some ⟨g, 0, none⟩) 0 0) (hg0 : w.heap[g]? = some (.cells #[] e (0, 0))) (hbg : base ≤ g)
  (vx : Value) (ms : List α) (hx : a.eval x = vx) (hxs : SlAt enc w vx ms) (hne : vx ≠ .slice none 0 0)
  (hbytes : ms.length * bytes ≤ 140737488355328) (h63 : ms.length ≤ 9223372036854775807)
  (hF : ∀ v' w', Owns enc k base e w' v' ms → Below w.heap.size w w' → F v' w') : Leaves P ops Q i d F a w := by
 obtain ⟨ti, hti, hz, hsize, hby⟩ := info_parts hinfo
 obtain ⟨oa, cap, rfl, hcap, hn, hc⟩ := hxs
 have hgl : g < w.heap.size := (Array.getElem?_eq_some_iff.1 hg0).1
 cases oa with
 | none =>
  obtain rfl := hn rfl
  obtain rfl : ms = [] := List.eq_nil_of_length_eq_zero (by omega)
  exact absurd rfl hne
 | some aa =>
  have hown0 : w.ownsRow base e k (.slice (some ⟨g, 0, none⟩) 0 0) 0 [] := ⟨by simp, .inr ⟨g, 0, #[], rfl, hbg, hg0, Nat.le_refl _, by simp [maxLen], by simp, by simp⟩⟩
  have hcells : ∀ j u, (ms.flatMap enc)[j]? = some u → w.cell? (aa.add j) = some u := fun j u hu => hc aa rfl j u hu
  have hone : ∀ u ∈ ms.flatMap enc, u.oneCell' = true := fun u hu => by obtain ⟨y, _, hy⟩ := List.mem_flatMap.1 hu; exact h1 y u hy
  have hfl := flat_len enc k hk ms
  obtain ⟨v', w', hr, h2, h3, h4⟩ := run_append_own2 (P := P) w base t o.type e ti z k bytes ht hti hz hsize hby hzs k0 (.slice (some ⟨g, 0, none⟩) 0 0) 0 [] hown0 aa ms.length cap (ms.flatMap enc) hfl hcells hone
   (by simp only [maxLen]; omega) (by rw [Nat.zero_add]; exact hbytes) (by omega)
  have hB : Below w.heap.size w w' := by
   by_cases hm : ms.length = 0
   ·obtain rfl : ms = [] := List.eq_nil_of_length_eq_zero hm
    have hr2 := run_append_room (P := P) w t o.type e ti ht hti g 0 0 #[] hg0 aa 0 cap [] (by simp) (by simp) (by simp) (by simp) (by simp)
    rw [show ([] : List α).length = 0 from rfl] at hr
    rw [hr2] at hr
    cases hr
    refine ⟨rfl, rfl, rfl, by simp [World.setRow], fun q hq => ?_⟩
    by_cases e : q = g
    ·rw [e, setRow_heap w g #[] _ _ _ hg0, hg0]
     simp
    ·exact setRow_other w g q _ e
   ·subst hsize
    subst hby
    have hr2 := run_append_grow (P := P) w t o.type e ti z ht hti hz ⟨g, 0, none⟩ 0 0 [] (by simp) (by simp) aa ms.length cap (ms.flatMap enc) hfl hcells (by omega) (by omega) (growslice_fits (by omega) (by rw [Nat.zero_add]; exact hbytes))
    rw [hr2] at hr
    cases hr
    exact ⟨rfl, rfl, rfl, by simp, fun q hq => heap_alloc_old w.drew _ hq⟩
  refine leaves_val hi hd hgd (v := v') (w' := w') ?_ hB (hF v' w' (by unfold Owns; rw [← Nat.zero_add ms.length]; exact h2) hB)
  unfold execOp
  simp only [ho, resolve, invoke, builtin, Sem.run_bind, Sem.run_pure, Result.andThen_ok, List.map_toArray, List.map_cons, List.map_nil, hs, hx, hr]
end
end Go.Proofs.YtejihgfigclppaaGreat
namespace Go.Proofs.YtejihgfigclppaaGreat
open Go.Shelf Go.RowKit Go.Lib Go.Sort
set_option linter.unusedVariables false
set_option linter.unusedSimpArgs false
def Msg.copied (m : Msg) (hm he hs : Hdr) (evs : List PEv) : Msg := { m with hm := hm, he := he, hs := hs, evs := evs }
theorem copied_right {m : Msg} {hm he hs : Hdr} {evs : List PEv} (h : evs.map (·.2) = m.evs.map (·.2)) : (m.copied hm he hs evs).right ↔ m.right := by
 have hl : evs.length = m.evs.length := by have := congrArg List.length h; simpa using this
 have ha : (∀ p ∈ evs, RightEv p.2) ↔ ∀ p ∈ m.evs, RightEv p.2 := by
  have e1 : ∀ l : List PEv, (∀ p ∈ l, RightEv p.2) ↔ ∀ e ∈ l.map (·.2), RightEv e := fun l => ⟨fun q e he => by obtain ⟨p, hp, rfl⟩ := List.mem_map.1 he; exact q p hp, fun q p hp => q p.2 (List.mem_map_of_mem hp)⟩
  rw [e1, e1, h]
 have hE : (m.copied hm he hs evs).evsOk ↔ m.evsOk := by
  unfold Msg.evsOk Msg.copied
  dsimp only
  rw [ha, hl]
 exact ⟨fun r => ⟨r.kind, r.frm, r.to_, r.ne, r.ms, r.seq, r.node, r.seen, hE.1 r.evs⟩, fun r => ⟨r.kind, r.frm, r.to_, r.ne, r.ms, r.seq, r.node, r.seen, hE.2 r.evs⟩⟩
theorem copied_bad {d : Det} {m : Msg} {hm he hs : Hdr} {evs : List PEv} (h : evs.map (·.2) = m.evs.map (·.2)) : badOn d (m.copied hm he hs evs) = badOn d m := by
 have hr : (m.copied hm he hs evs).rightB = m.rightB := by
  by_cases hr : m.right
  ·rw [Msg.rightB_true hr, Msg.rightB_true ((copied_right h).2 hr)]
  ·rw [Msg.rightB_false hr, Msg.rightB_false fun x => hr ((copied_right h).1 x)]
 unfold badOn
 rw [hr]
 rfl
theorem copied_small {m : Msg} {hm he hs : Hdr} {evs : List PEv} (h : evs.map (·.2) = m.evs.map (·.2)) (hsm : m.small) : (m.copied hm he hs evs).small := by
 have hl : evs.length = m.evs.length := by have := congrArg List.length h; simpa using this
 refine ⟨hsm.more, hsm.ms, ?_, fun p hp => ?_⟩
 ·show evs.length ≤ 3000
  rw [hl]
  exact hsm.evs
 ·have h1 : p.2 ∈ evs.map (·.2) := List.mem_map_of_mem hp
  rw [h] at h1
  obtain ⟨q, hq, e⟩ := List.mem_map.1 h1
  rw [← e]
  exact hsm.rems q hq
theorem owns_madeG {α : Type} (enc : α → List Value) (k : Nat) {e : Nat} (W : World) (n : Nat) (hn : W.heap.size = n) : Owns enc k n e (W.alloc (.cells #[] e)) (.slice (some ⟨n, 0, none⟩) 0 0) [] := by
 subst hn
 refine ⟨by simp, .inr ⟨W.heap.size, 0, #[], rfl, Nat.le_refl _, heap_alloc_new W _, Nat.le_refl _, by simp [maxLen], by simp, by simp⟩⟩
set_option maxRecDepth 100000 in
set_option maxHeartbeats 16000000 in
theorem copy17_any (m : Msg) (hs : m.small) (w : World) (h : MsgIn w m) :
  Calls Tryz.prog 28 #[.agg #[.int .i64 m.kind, .int .i64 m.frm, .int .i64 m.to_, .int .i64 m.seq, .int .i64 m.node, .int .i64 (m.u 0), .int .i64 (m.u 1), .int .i64 (m.u 2), .int .i64 (m.u 3), .int .i64 (m.u 4), .int .i64 (m.u 5), .int .i64 (m.u 6), .int .i64 (m.u 7), m.hm.val, m.he.val, m.hs.val]] w fun e w' => ∃ (hm he hs : Hdr) (evs : List PEv), e = .returned (.agg #[.int .i64 m.kind, .int .i64 m.frm, .int .i64 m.to_, .int .i64 m.seq, .int .i64 m.node, .int .i64 (m.u 0), .int .i64 (m.u 1), .int .i64 (m.u 2), .int .i64 (m.u 3), .int .i64 (m.u 4), .int .i64 (m.u 5), .int .i64 (m.u 6), .int .i64 (m.u 7), hm.val, he.val, hs.val]) ∧ evs.map (·.2) = m.evs.map (·.2) ∧ MsgIn w' (m.copied hm he hs evs) ∧ (∀ b, hs.val.ownBlock = some b → w.heap.size ≤ b) ∧ Below w.heap.size w w' := by
 obtain ⟨kind, frm, to_, seq, node, u, more, evs, ms, ⟨ma, mn, mc⟩, ⟨ea, en, ec⟩, ⟨sa, sn, sc⟩⟩ := m
 obtain ⟨hMo, hEv, hMs⟩ := h
 obtain ⟨l1, l2, l3, l4⟩ := hs
 simp only [Hdr.val] at *
 have e1 : en = evs.length := by
  obtain ⟨_, _, hv, _⟩ := hEv.1.slice_of
  simp only [Value.slice.injEq] at hv
  exact hv.2.1
 subst e1
 obtain ⟨h0, h1, hb, hsz⟩ := alloc2 w (.cells #[.int .i64 kind, .int .i64 frm, .int .i64 to_, .int .i64 seq, .int .i64 node, .int .i64 (u 0), .int .i64 (u 1), .int .i64 (u 2), .int .i64 (u 3), .int .i64 (u 4), .int .i64 (u 5), .int .i64 (u 6), .int .i64 (u 7), .slice ma mn mc, .slice ea evs.length ec, .slice sa sn sc] 42) (.cells #[.int .i64 0, .int .i64 0, .int .i64 0, .int .i64 0, .int .i64 0, .int .i64 0, .int .i64 0, .int .i64 0, .int .i64 0, .int .i64 0, .int .i64 0, .int .i64 0, .int .i64 0, .slice none 0 0, .slice none 0 0, .slice none 0 0] 42)
 obtain ⟨w2, hw2⟩ : ∃ w2, (w.alloc (.cells #[.int .i64 kind, .int .i64 frm, .int .i64 to_, .int .i64 seq, .int .i64 node, .int .i64 (u 0), .int .i64 (u 1), .int .i64 (u 2), .int .i64 (u 3), .int .i64 (u 4), .int .i64 (u 5), .int .i64 (u 6), .int .i64 (u 7), .slice ma mn mc, .slice ea evs.length ec, .slice sa sn sc] 42)).alloc (.cells #[.int .i64 0, .int .i64 0, .int .i64 0, .int .i64 0, .int .i64 0, .int .i64 0, .int .i64 0, .int .i64 0, .int .i64 0, .int .i64 0, .int .i64 0, .int .i64 0, .int .i64 0, .slice none 0 0, .slice none 0 0, .slice none 0 0] 42) = w2 := ⟨_, rfl⟩
 rw [hw2] at h0 h1 hb hsz
 have p13 : w2.cell? ⟨w.heap.size, 13, none⟩ = some (.slice ma mn mc) := cell_of_row w2 _ 13 _ _ _ h0
 have hn0 : w.heap.size < w2.heap.size := by omega
 have HW2 := Lib.hid hw2
 have H0 := Lib.hid h0
 have H1 := Lib.hid h1
 have HB := Lib.hid hb
 have HSZ := Lib.hid hsz
 have HMO := Lib.hid hMo
 have HEV := Lib.hid hEv
 have HMS := Lib.hid hMs
 have HL3 := Lib.hid l3
 have HL4 := Lib.hid l4
 clear hw2 h0 h1 hb hsz hMo hEv hMs l3 l4
 go_enter Tryz.func28, Tryz.ntmps28
 go_upto_region 1 with fail
 rw [HW2.out]
 go_wp2_with (at_builtin; refine wpList_app Dot.cells 2 Dot.cells_len (by decide) Dot.cells_one _ rfl _ _ 38 rfl w2.heap.size 108 _ 16 Tryz.underlying38 infoDot rfl _ [] rfl ?h1 _ more rfl ?h2 ?h3 ?h4 ?h5 ?_)
 case h1 => exact owns_madeG Dot.cells 2 w2 _ rfl
 case h2 => exact HMO.out.below Dot.cells_len (by decide) (HB.out.alloc (by have := HSZ.out; omega) _) (Nat.le_refl _)
 case h3 => simp only [List.length_nil]; omega
 case h4 => simp only [List.length_nil]; omega
 case h5 => simp
 intro v3 w3 hown3 hg3 hv3
 have hb3 : Below w2.heap.size w2 w3 := ((Below.refl w2.heap.size w2).alloc (Nat.le_refl _) _).grown hg3 (by simp) fun k hk => by simp [Value.ownBlock] at hk; omega
 obtain ⟨⟨xa, xn, xc⟩, hx⟩ := hdr_of_slAt hown3.at
 simp only [Hdr.val] at hx
 subst hx
 have r0 := (hb3.block w.heap.size hn0).trans H0.out
 have r1 := (hb3.block (w.heap.size + 1) (by have := HSZ.out; omega)).trans H1.out
 have q13 : w3.cell? ⟨w.heap.size, 13, none⟩ = some (.slice ma mn mc) := cell_of_row w3 _ 13 _ _ _ r0
 have z13 : w3.frozen? ⟨w.heap.size, 13, none⟩ = false := by unfold World.frozen?; rw [r0]; simp
 have HR0 := Lib.hid (heap_cellSame w3 w.heap.size 13 _ _ (.slice xa xn xc) r0)
 have HR1 := Lib.hid ((Below.heap_setCell w3 ⟨w.heap.size, 13, none⟩ (.slice xa xn xc) (w.heap.size + 1) (by show w.heap.size + 1 ≠ w.heap.size; omega)).trans r1)
 have HO3 := Lib.hid (hown3.keep (w' := w3.setCell ⟨w.heap.size, 13, none⟩ (.slice xa xn xc)) fun b hb => Below.heap_setCell w3 ⟨w.heap.size, 13, none⟩ (.slice xa xn xc) b (by have := (hown3.lt b hb).1; show b ≠ w.heap.size; omega))
 have HB3 := Lib.hid ((HB.out.trans (hb3.mono (Nat.le_of_lt hn0))).setCell (p := ⟨w.heap.size, 13, none⟩) (Nat.le_refl _) (.slice xa xn xc))
 have hs3 : (w3.setCell ⟨w.heap.size, 13, none⟩ (.slice xa xn xc)).heap.size = w3.heap.size := by simp [World.setCell]
 have hs4 : w.heap.size + 2 ≤ (w3.setCell ⟨w.heap.size, 13, none⟩ (.slice xa xn xc)).heap.size := by have := HSZ.out; have := hb3.size; omega
 clear r0 r1 hb3 hown3 hg3 hv3 p13 hs3
 go_upto_region 2 with fail
 generalize w3.setCell ⟨w.heap.size, 13, none⟩ (.slice xa xn xc) = w4 at *
 clear q13 z13 H0 H1 HB HW2
 have hco := copies_any ea ec evs w4 (HEV.out.below HB3.out (Nat.le_refl _)) (by have := HL3.out; omega) fun p hp => by have := HL4.out p hp; omega
 have p14 : w4.cell? ⟨w.heap.size, 14, none⟩ = some (.slice ea evs.length ec) := cell_of_row w4 _ 14 _ _ _ HR0.out
 have HCO := Lib.hid hco
 clear hco
 go_wp2_with fail
 refine HCO.out.mono ?_
 rintro e w5 ⟨oq, cq, qs, rfl, hql, hqm, hacc, hb5⟩
 have r0 := (hb5.block w.heap.size (by omega)).trans HR0.out
 have r1 := (hb5.block (w.heap.size + 1) (by omega)).trans HR1.out
 have q14 : w5.cell? ⟨w.heap.size, 14, none⟩ = some (.slice ea evs.length ec) := cell_of_row w5 _ 14 _ _ _ r0
 have z14 : w5.frozen? ⟨w.heap.size, 14, none⟩ = false := by unfold World.frozen?; rw [r0]; simp
 have hB5 := (HB3.out.trans (hb5.mono (by omega))).setCell (p := ⟨w.heap.size, 14, none⟩) (Nat.le_refl _) (.slice oq evs.length cq)
 have hkeep : ∀ k, w.heap.size < k → (w5.setCell ⟨w.heap.size, 14, none⟩ (.slice oq evs.length cq)).heap[k]? = w5.heap[k]? := fun k hk => Below.heap_setCell w5 ⟨w.heap.size, 14, none⟩ (.slice oq evs.length cq) k (by show k ≠ w.heap.size; omega)
 have HQ0 := Lib.hid (heap_cellSame w5 w.heap.size 14 _ _ (.slice oq evs.length cq) r0)
 have HQ1 := Lib.hid ((hkeep (w.heap.size + 1) (by omega)).trans r1)
 have HO5 := Lib.hid ((HO3.out.below hb5 (Nat.le_refl _)).keep (w' := w5.setCell ⟨w.heap.size, 14, none⟩ (.slice oq evs.length cq)) fun b hb => hkeep b (by have := (HO3.out.lt b hb).1; omega))
 have HE5 : Hid (Acc w4.heap.size 112 108 (w5.setCell ⟨w.heap.size, 14, none⟩ (.slice oq evs.length cq)) (.slice oq evs.length cq) qs) := ⟨hacc.row.keep fun b hb => hkeep b (by have := (hacc.row.lt b hb).1; omega), fun q hq => ⟨(hacc.rem q hq).1.keep fun b hb => hkeep b (by have := ((hacc.rem q hq).1.lt b hb).1; omega), (hacc.rem q hq).2⟩⟩
 have HB5 := Lib.hid hB5
 have hs5 : (w5.setCell ⟨w.heap.size, 14, none⟩ (.slice oq evs.length cq)).heap.size = w5.heap.size := by simp [World.setCell]
 have hs6 : w.heap.size + 2 ≤ (w5.setCell ⟨w.heap.size, 14, none⟩ (.slice oq evs.length cq)).heap.size := by have := hb5.size; omega
 have hs64 : w4.heap.size ≤ (w5.setCell ⟨w.heap.size, 14, none⟩ (.slice oq evs.length cq)).heap.size := by have := hb5.size; omega
 have HQM := Lib.hid hqm
 clear r0 r1 hb5 hacc hB5 hkeep HCO HR0 HR1 HO3 HB3 hql hqm hs5 p14
 go_upto_region 3 with fail
 generalize w5.setCell ⟨w.heap.size, 14, none⟩ (.slice oq evs.length cq) = w6 at *
 clear q14 z14
 have p15 : w6.cell? ⟨w.heap.size, 15, none⟩ = some (.slice sa sn sc) := cell_of_row w6 _ 15 _ _ _ HQ0.out
 have hn6 : w.heap.size < w6.heap.size := by omega
 go_wp2_with (at_builtin; refine wpList_app Mb.cells 3 Mb.cells_len (by decide) Mb.cells_one _ rfl _ _ 40 rfl w6.heap.size 45 _ 24 Tryz.underlying40 infoMember rfl _ [] rfl ?g1 _ ms rfl ?g2 ?g3 ?g4 ?g5 ?_)
 case g1 => exact owns_madeG Mb.cells 3 w6 _ rfl
 case g2 => exact HMS.out.below Mb.cells_len (by decide) (HB5.out.alloc (by omega) _) (Nat.le_refl _)
 case g3 => simp only [List.length_nil]; omega
 case g4 => simp only [List.length_nil]; omega
 case g5 => simp
 intro v7 w7 hown7 hg7 hv7
 have hb7 : Below w6.heap.size w6 w7 := ((Below.refl w6.heap.size w6).alloc (Nat.le_refl _) _).grown hg7 (by simp) fun k hk => by simp [Value.ownBlock] at hk; omega
 obtain ⟨⟨ya, yn, yc⟩, hy⟩ := hdr_of_slAt hown7.at
 simp only [Hdr.val] at hy
 subst hy
 have r0 := (hb7.block w.heap.size hn6).trans HQ0.out
 have r1 := (hb7.block (w.heap.size + 1) (by omega)).trans HQ1.out
 have q15 : w7.cell? ⟨w.heap.size, 15, none⟩ = some (.slice sa sn sc) := cell_of_row w7 _ 15 _ _ _ r0
 have z15 : w7.frozen? ⟨w.heap.size, 15, none⟩ = false := by unfold World.frozen?; rw [r0]; simp
 have hB7 := (HB5.out.trans (hb7.mono (by omega))).setCell (p := ⟨w.heap.size, 15, none⟩) (Nat.le_refl _) (.slice ya yn yc)
 have hkeep : ∀ k, w.heap.size < k → (w7.setCell ⟨w.heap.size, 15, none⟩ (.slice ya yn yc)).heap[k]? = w7.heap[k]? := fun k hk => Below.heap_setCell w7 ⟨w.heap.size, 15, none⟩ (.slice ya yn yc) k (by show k ≠ w.heap.size; omega)
 have h08 : (w7.setCell ⟨w.heap.size, 15, none⟩ (.slice ya yn yc)).heap[w.heap.size]? = some (.cells #[.int .i64 kind, .int .i64 frm, .int .i64 to_, .int .i64 seq, .int .i64 node, .int .i64 (u 0), .int .i64 (u 1), .int .i64 (u 2), .int .i64 (u 3), .int .i64 (u 4), .int .i64 (u 5), .int .i64 (u 6), .int .i64 (u 7), .slice xa xn xc, .slice oq evs.length cq, .slice ya yn yc] 42) := heap_cellSame w7 w.heap.size 15 _ _ (.slice ya yn yc) r0
 have h18 := (hkeep (w.heap.size + 1) (by omega)).trans r1
 have ho8 := hown7.keep (w' := w7.setCell ⟨w.heap.size, 15, none⟩ (.slice ya yn yc)) fun b hb => hkeep b (by have := (hown7.lt b hb).1; omega)
 have hm8 := (HO5.out.below hb7 (Nat.le_refl _)).keep (w' := w7.setCell ⟨w.heap.size, 15, none⟩ (.slice ya yn yc)) fun b hb => hkeep b (by have := (HO5.out.lt b hb).1; omega)
 have he8 : Acc w4.heap.size 112 108 (w7.setCell ⟨w.heap.size, 15, none⟩ (.slice ya yn yc)) (.slice oq evs.length cq) qs := by
  have ha := HE5.out.below hb7 (Nat.le_refl _)
  exact ⟨ha.row.keep fun b hb => hkeep b (by have := (ha.row.lt b hb).1; omega), fun q hq => ⟨(ha.rem q hq).1.keep fun b hb => hkeep b (by have := ((ha.rem q hq).1.lt b hb).1; omega), (ha.rem q hq).2⟩⟩
 have hfr : ∀ b, (Value.slice ya yn yc).ownBlock = some b → w6.heap.size ≤ b := fun b hb => (hown7.lt b hb).1
 have H08 := Lib.hid h08
 have H18 := Lib.hid h18
 have HO8 := Lib.hid ho8
 have HM8 := Lib.hid hm8
 have HE8 := Lib.hid he8
 have HB8 := Lib.hid hB7
 have HFR := Lib.hid hfr
 clear r0 r1 hb7 hown7 hg7 hv7 hB7 hkeep h08 h18 ho8 hm8 he8 hfr HQ0 HQ1 HO5 HE5 HB5 p15 HMO HEV HMS
 go_upto_region 4 with fail
 generalize w7.setCell ⟨w.heap.size, 15, none⟩ (.slice ya yn yc) = w8 at *
 clear q15 z15
 have hld := load_whole H08.out rfl
 have hr9 := setRow_heap w8 (w.heap.size + 1) _ #[.int .i64 kind, .int .i64 frm, .int .i64 to_, .int .i64 seq, .int .i64 node, .int .i64 (u 0), .int .i64 (u 1), .int .i64 (u 2), .int .i64 (u 3), .int .i64 (u 4), .int .i64 (u 5), .int .i64 (u 6), .int .i64 (u 7), .slice xa xn xc, .slice oq evs.length cq, .slice ya yn yc] _ _ H18.out
 have HLD := Lib.hid hld
 have HR9 := Lib.hid hr9
 clear hld hr9
 go_wp2_with (first | (refine wpList_loadAgg _ rfl 42 _ rfl 16 (by kernel_rfl) (by kernel_rfl) ⟨w.heap.size, 0, none⟩ rfl _ HLD.out ?_) | (refine wpList_storeRow _ rfl rfl 42 (.tmp 2) (.tmp 17) rfl (w.heap.size + 1) _ #[.int .i64 kind, .int .i64 frm, .int .i64 to_, .int .i64 seq, .int .i64 node, .int .i64 (u 0), .int .i64 (u 1), .int .i64 (u 2), .int .i64 (u 3), .int .i64 (u 4), .int .i64 (u 5), .int .i64 (u 6), .int .i64 (u 7), .slice xa xn xc, .slice oq evs.length cq, .slice ya yn yc] rfl rfl H18.out (by kernel_rfl) rfl (by simp [Value.oneCell']) ?_))
 have hL := run_loadVarAgg (t := 42) (n := 16) (by kernel_rfl) (by kernel_rfl) (load_whole HR9.out rfl)
 have hk9 : ∀ k, w.heap.size + 1 < k → (w8.setRow (w.heap.size + 1) #[.int .i64 kind, .int .i64 frm, .int .i64 to_, .int .i64 seq, .int .i64 node, .int .i64 (u 0), .int .i64 (u 1), .int .i64 (u 2), .int .i64 (u 3), .int .i64 (u 4), .int .i64 (u 5), .int .i64 (u 6), .int .i64 (u 7), .slice xa xn xc, .slice oq evs.length cq, .slice ya yn yc]).heap[k]? = w8.heap[k]? := fun k hk => setRow_other w8 (w.heap.size + 1) k _ (by omega)
 exact bodyPost_ret (v := .agg #[.int .i64 kind, .int .i64 frm, .int .i64 to_, .int .i64 seq, .int .i64 node, .int .i64 (u 0), .int .i64 (u 1), .int .i64 (u 2), .int .i64 (u 3), .int .i64 (u 4), .int .i64 (u 5), .int .i64 (u 6), .int .i64 (u 7), .slice xa xn xc, .slice oq evs.length cq, .slice ya yn yc]) (run_results_cell rfl rfl hL) rfl ⟨⟨xa, xn, xc⟩, ⟨oq, evs.length, cq⟩, ⟨ya, yn, yc⟩, qs, rfl, HQM.out,
  ⟨(HM8.out.keep fun b hb => hk9 b (by have := (HM8.out.lt b hb).1; have := HSZ.out; omega)).at, ⟨(HE8.out.row.keep fun b hb => hk9 b (by have := (HE8.out.row.lt b hb).1; omega)).at, fun q hq => ((HE8.out.rem q hq).1.keep fun b hb => hk9 b (by have := ((HE8.out.rem q hq).1.lt b hb).1; omega)).at⟩, (HO8.out.keep fun b hb => hk9 b (by have := (HO8.out.lt b hb).1; omega)).at⟩,
  fun b hb => by have := HFR.out b hb; omega, HB8.out.trans ⟨rfl, rfl, rfl, by simp [World.setRow], fun k hk => setRow_other w8 (w.heap.size + 1) k _ (by omega)⟩⟩
end Go.Proofs.YtejihgfigclppaaGreat
namespace Go.Proofs.YtejihgfigclppaaGreat
open Go.Shelf Go.RowKit Go.Lib Go.Sort
set_option linter.unusedVariables false
set_option linter.unusedSimpArgs false
def codeDropO : Nat → Code → Code
 | 0, c => c
 | n + 1, .seq _ b => codeDropO n b
 | _ + 1, c => c
noncomputable def tail29 : Code := codeDropO 5 (Tryz.f29.body.getD .skip)
set_option maxRecDepth 100000 in
set_option maxHeartbeats 64000000 in
theorem ron_ping (R5 : RM) (d5 : Det) (m : Msg) (bm : Nat) (w5 : World) (post : Ending → World → Prop) (HD5 : Hid (RAt w5 R5 d5)) (HK5 : Hid (DetOk d5)) (hn5 : d5.num < 1000000) (HRM : Hid (w5.heap[bm]? = some (.cells #[.int .i64 m.kind, .int .i64 m.frm, .int .i64 m.to_, .int .i64 m.seq, .int .i64 m.node, .int .i64 (m.u 0), .int .i64 (m.u 1), .int .i64 (m.u 2), .int .i64 (m.u 3), .int .i64 (m.u 4), .int .i64 (m.u 5), .int .i64 (m.u 6), .int .i64 (m.u 7), m.hm.val, m.he.val, m.hs.val] 42))) (HLO : Hid (∀ k ∈ R5.own, k ≠ bm)) (hs6 : bm < w5.heap.size) (HPOST : Hid (∀ v W, RStepped R5 (doOn d5 m.got).1 (doOn d5 m.got).2 w5 v W → post (.returned (.tuple #[v, .int .i64 0])) W)) (n1 : m.kind = 1) {u1 u2 u4 u5 u6 u7 u8 u9 u10 u11 u12 u13 u14 u15 u16 u17 u18 u19 u20 u21 u22 u23 u24 u25 u26 u27 u28 u29 u30 u31 u32 u33 u34 u35 u36 u37 u38 u39 u40 u41 u42 u43 u44 u45 u46 u47 u48 u49 u50 u51 u52 u53 u54 u55 u56 u57 u58 u59 u60 u61 u62 u63 u64 u65 u66 u67 u68 u69 u70 u71 u72 u73 u74 u75 u76 u77 u78 u79 u80 u81 u82 u83 u84 u85 u86 u87 u88 u89 u90 u91 u92 u93 u94 u95 u96 u97 u98 u99 u100 u101 u102 u103 u104 u105 u106 u107 u108 u109 u110 u111 u112 u113 u114 u115 u116 u117 u118 u119 u120 u121 u122 u123 u124 u125 u126 u127 u128 u129 u130 u131 u132 u133 u134 u135 u136 u137 u138 u139 u140 u141 u142 u143 u144 u145 u146 u147 u148 u149 u150 u151 u152 u153 u154 u155 u156 u157 u158 u159 u160 u161 u162 u163 u164 u165 u166 u167 u168 u169 u170 u171 u172 u173 u174 u175 u176 u177 u178 u179 u180 u181 u182 u183 u184 u185 u186 u187 u188 u189 u190 u191 u192 u193 u194 u195 u196 u197 u198 u199 u200 u201 u202 u203 u204 u205 u206 u207 u208 u209 u210 u211 u212 u213 u214 u215 : Value} :
  Code.wp Tryz.prog tail29 (bodyPost Tryz.prog Tryz.f29 post) { tmps := List.toArray (.pointer (some ⟨R5.g, 0, none⟩) :: u1 :: u2 :: .pointer (some ⟨bm, 0, none⟩) :: u4 :: u5 :: u6 :: u7 :: u8 :: u9 :: u10 :: u11 :: u12 :: u13 :: u14 :: u15 :: u16 :: u17 :: u18 :: u19 :: u20 :: u21 :: u22 :: u23 :: u24 :: u25 :: u26 :: u27 :: u28 :: u29 :: u30 :: u31 :: u32 :: u33 :: u34 :: u35 :: u36 :: u37 :: u38 :: u39 :: u40 :: u41 :: u42 :: u43 :: u44 :: u45 :: u46 :: u47 :: u48 :: u49 :: u50 :: u51 :: u52 :: u53 :: u54 :: u55 :: u56 :: u57 :: u58 :: u59 :: u60 :: u61 :: u62 :: u63 :: u64 :: u65 :: u66 :: u67 :: u68 :: u69 :: u70 :: u71 :: u72 :: u73 :: u74 :: u75 :: u76 :: u77 :: u78 :: u79 :: u80 :: u81 :: u82 :: u83 :: u84 :: u85 :: u86 :: u87 :: u88 :: u89 :: u90 :: u91 :: u92 :: u93 :: u94 :: u95 :: u96 :: u97 :: u98 :: u99 :: u100 :: u101 :: u102 :: u103 :: u104 :: u105 :: u106 :: u107 :: u108 :: u109 :: u110 :: u111 :: u112 :: u113 :: u114 :: u115 :: u116 :: u117 :: u118 :: u119 :: u120 :: u121 :: u122 :: u123 :: u124 :: u125 :: u126 :: u127 :: u128 :: u129 :: u130 :: u131 :: u132 :: u133 :: u134 :: u135 :: u136 :: u137 :: u138 :: u139 :: u140 :: u141 :: u142 :: u143 :: u144 :: u145 :: u146 :: u147 :: u148 :: u149 :: u150 :: u151 :: u152 :: u153 :: u154 :: u155 :: u156 :: u157 :: u158 :: u159 :: u160 :: u161 :: u162 :: u163 :: u164 :: u165 :: u166 :: u167 :: u168 :: u169 :: u170 :: u171 :: u172 :: u173 :: u174 :: u175 :: u176 :: u177 :: u178 :: u179 :: u180 :: u181 :: u182 :: u183 :: u184 :: u185 :: u186 :: u187 :: u188 :: u189 :: u190 :: u191 :: u192 :: u193 :: u194 :: u195 :: u196 :: u197 :: u198 :: u199 :: u200 :: u201 :: u202 :: u203 :: u204 :: u205 :: u206 :: u207 :: u208 :: u209 :: u210 :: u211 :: u212 :: u213 :: u214 :: u215 :: []), defers := [] } w5 := by
 have hp : Tryz.prog.follows .mixedOrders = true := by kernel_rfl
 conv => enter [2]; whnf
 have hgl5 : R5.g < w5.heap.size := HD5.out.lt
 have hgtl5 : R5.gt < w5.heap.size := HD5.out.tab.lt
 have hbn : bm ≠ R5.g := fun e => HLO.out R5.g R5.mem_g e.symm
 have m0 : w5.cell? ⟨bm, 0, none⟩ = some (.int .i64 m.kind) := cell_of_row w5 _ 0 _ _ _ HRM.out
 have m1 : w5.cell? ⟨bm, 1, none⟩ = some (.int .i64 m.frm) := cell_of_row w5 _ 1 _ _ _ HRM.out
 have m3 : w5.cell? ⟨bm, 3, none⟩ = some (.int .i64 m.seq) := cell_of_row w5 _ 3 _ _ _ HRM.out
 have m4 : w5.cell? ⟨bm, 4, none⟩ = some (.int .i64 m.node) := cell_of_row w5 _ 4 _ _ _ HRM.out
 have k3 : w5.cell? ⟨R5.g, 3, none⟩ = some (.pointer (some ⟨R5.gt, 0, none⟩)) := HD5.out.cell 3
 have k0 : w5.cell? ⟨R5.gt, 0, none⟩ = some (.int .i64 d5.self) := HD5.out.tab.self
 have HKP : Hid (∀ W, Below w5.heap.size w5 W → W.cell? ⟨bm, 1, none⟩ = some (.int .i64 m.frm) ∧ W.cell? ⟨bm, 3, none⟩ = some (.int .i64 m.seq) ∧ W.cell? ⟨bm, 4, none⟩ = some (.int .i64 m.node) ∧ W.cell? ⟨R5.g, 3, none⟩ = some (.pointer (some ⟨R5.gt, 0, none⟩)) ∧ W.cell? ⟨R5.gt, 0, none⟩ = some (.int .i64 d5.self)) := fun W hW =>
  ⟨(hW.cell (p := ⟨bm, 1, none⟩) hs6).trans m1, (hW.cell (p := ⟨bm, 3, none⟩) hs6).trans m3, (hW.cell (p := ⟨bm, 4, none⟩) hs6).trans m4, (hW.cell (p := ⟨R5.g, 3, none⟩) hgl5).trans k3, (hW.cell (p := ⟨R5.gt, 0, none⟩) hgtl5).trans k0⟩
 rw [n1] at m0
 have hdo : doOn d5 m.got = (d5, [d5.send 2 m.frm m.seq d5.self]) := if_pos n1
 have HDO := Lib.hid hdo
 have hse := rsend_any R5 d5 2 m.frm m.seq d5.self w5.drew HK5.out (HD5.out.keep fun _ _ => rfl)
 have HSE := Lib.hid hse
 clear hdo hse n1
 go_wp2_with fail
 go_cut [4, 5] (fun s4 s5 wx => s5 = .int .i64 0 ∧ Hid (RStepped R5 d5 [d5.send 2 m.frm m.seq d5.self] w5 s4 wx))
 case first =>
  go_region_held (fun w' => w'.cell? ⟨bm, 1, none⟩ = some (.int .i64 m.frm) ∧ w'.cell? ⟨bm, 3, none⟩ = some (.int .i64 m.seq) ∧ w'.cell? ⟨R5.g, 3, none⟩ = some (.pointer (some ⟨R5.gt, 0, none⟩)) ∧ w'.cell? ⟨R5.gt, 0, none⟩ = some (.int .i64 d5.self)) (first | exact ⟨m1, m3, k3, k0⟩ | exact ⟨j1, j3, j33, j0⟩ | exact ⟨(HKP.out _ (HW7.out.alloc HW7.out.size _)).1, (HKP.out _ (HW7.out.alloc HW7.out.size _)).2.1, (HKP.out _ (HW7.out.alloc HW7.out.size _)).2.2.2.1, (HKP.out _ (HW7.out.alloc HW7.out.size _)).2.2.2.2⟩) (first | (go_at_call 65; refine HSE.out.mono ?_; rintro e w7 ⟨o, c, rfl, ho, hb⟩; have HO := Lib.hid ho; have HB := Lib.hid hb; have HW7 : Hid (Below w5.heap.size w5 w7) := (below_drew (Below.refl _ _)).trans hb; obtain ⟨j1, j3, _, j33, j0⟩ := HKP.out _ HW7.out; clear ho hb; unfold sentV Det.send; dsimp only))
  all_goals
   go_wp2_with fail
   go_meet
   obtain ⟨q1, q2, q3⟩ := msgs_one (wc := w5.drew) (B := w5.heap.size) (Nat.le_refl _) HB.out (d5.send 2 m.frm m.seq d5.self) HO.out (L := []) (by simp)
   exact ⟨rfl, R5, _, HD5.out.below ((below_drew (Below.refl _ _)).trans q3), q1, rfl, RNew.refl _ _, Touch.of_below ((below_drew (Below.refl _ _)).trans q3) (Nat.le_refl _)⟩
 case rest =>
  obtain ⟨rfl, HST⟩ := hcut
  go_wp2_with fail
  exact HPOST.out _ _ (by rw [HDO.out]; exact HST.out)
set_option maxRecDepth 100000 in
set_option maxHeartbeats 64000000 in
theorem ron_none (R5 : RM) (d5 : Det) (m : Msg) (bm : Nat) (w5 : World) (post : Ending → World → Prop) (HD5 : Hid (RAt w5 R5 d5)) (HK5 : Hid (DetOk d5)) (hn5 : d5.num < 1000000) (HRM : Hid (w5.heap[bm]? = some (.cells #[.int .i64 m.kind, .int .i64 m.frm, .int .i64 m.to_, .int .i64 m.seq, .int .i64 m.node, .int .i64 (m.u 0), .int .i64 (m.u 1), .int .i64 (m.u 2), .int .i64 (m.u 3), .int .i64 (m.u 4), .int .i64 (m.u 5), .int .i64 (m.u 6), .int .i64 (m.u 7), m.hm.val, m.he.val, m.hs.val] 42))) (HLO : Hid (∀ k ∈ R5.own, k ≠ bm)) (hs6 : bm < w5.heap.size) (HPOST : Hid (∀ v W, RStepped R5 (doOn d5 m.got).1 (doOn d5 m.got).2 w5 v W → post (.returned (.tuple #[v, .int .i64 0])) W)) (n1 : ¬ m.kind = 1) (n2 : ¬ m.kind = 2) (n3 : ¬ m.kind = 3) {u1 u2 u4 u5 u6 u7 u8 u9 u10 u11 u12 u13 u14 u15 u16 u17 u18 u19 u20 u21 u22 u23 u24 u25 u26 u27 u28 u29 u30 u31 u32 u33 u34 u35 u36 u37 u38 u39 u40 u41 u42 u43 u44 u45 u46 u47 u48 u49 u50 u51 u52 u53 u54 u55 u56 u57 u58 u59 u60 u61 u62 u63 u64 u65 u66 u67 u68 u69 u70 u71 u72 u73 u74 u75 u76 u77 u78 u79 u80 u81 u82 u83 u84 u85 u86 u87 u88 u89 u90 u91 u92 u93 u94 u95 u96 u97 u98 u99 u100 u101 u102 u103 u104 u105 u106 u107 u108 u109 u110 u111 u112 u113 u114 u115 u116 u117 u118 u119 u120 u121 u122 u123 u124 u125 u126 u127 u128 u129 u130 u131 u132 u133 u134 u135 u136 u137 u138 u139 u140 u141 u142 u143 u144 u145 u146 u147 u148 u149 u150 u151 u152 u153 u154 u155 u156 u157 u158 u159 u160 u161 u162 u163 u164 u165 u166 u167 u168 u169 u170 u171 u172 u173 u174 u175 u176 u177 u178 u179 u180 u181 u182 u183 u184 u185 u186 u187 u188 u189 u190 u191 u192 u193 u194 u195 u196 u197 u198 u199 u200 u201 u202 u203 u204 u205 u206 u207 u208 u209 u210 u211 u212 u213 u214 u215 : Value} :
  Code.wp Tryz.prog tail29 (bodyPost Tryz.prog Tryz.f29 post) { tmps := List.toArray (.pointer (some ⟨R5.g, 0, none⟩) :: u1 :: u2 :: .pointer (some ⟨bm, 0, none⟩) :: u4 :: u5 :: u6 :: u7 :: u8 :: u9 :: u10 :: u11 :: u12 :: u13 :: u14 :: u15 :: u16 :: u17 :: u18 :: u19 :: u20 :: u21 :: u22 :: u23 :: u24 :: u25 :: u26 :: u27 :: u28 :: u29 :: u30 :: u31 :: u32 :: u33 :: u34 :: u35 :: u36 :: u37 :: u38 :: u39 :: u40 :: u41 :: u42 :: u43 :: u44 :: u45 :: u46 :: u47 :: u48 :: u49 :: u50 :: u51 :: u52 :: u53 :: u54 :: u55 :: u56 :: u57 :: u58 :: u59 :: u60 :: u61 :: u62 :: u63 :: u64 :: u65 :: u66 :: u67 :: u68 :: u69 :: u70 :: u71 :: u72 :: u73 :: u74 :: u75 :: u76 :: u77 :: u78 :: u79 :: u80 :: u81 :: u82 :: u83 :: u84 :: u85 :: u86 :: u87 :: u88 :: u89 :: u90 :: u91 :: u92 :: u93 :: u94 :: u95 :: u96 :: u97 :: u98 :: u99 :: u100 :: u101 :: u102 :: u103 :: u104 :: u105 :: u106 :: u107 :: u108 :: u109 :: u110 :: u111 :: u112 :: u113 :: u114 :: u115 :: u116 :: u117 :: u118 :: u119 :: u120 :: u121 :: u122 :: u123 :: u124 :: u125 :: u126 :: u127 :: u128 :: u129 :: u130 :: u131 :: u132 :: u133 :: u134 :: u135 :: u136 :: u137 :: u138 :: u139 :: u140 :: u141 :: u142 :: u143 :: u144 :: u145 :: u146 :: u147 :: u148 :: u149 :: u150 :: u151 :: u152 :: u153 :: u154 :: u155 :: u156 :: u157 :: u158 :: u159 :: u160 :: u161 :: u162 :: u163 :: u164 :: u165 :: u166 :: u167 :: u168 :: u169 :: u170 :: u171 :: u172 :: u173 :: u174 :: u175 :: u176 :: u177 :: u178 :: u179 :: u180 :: u181 :: u182 :: u183 :: u184 :: u185 :: u186 :: u187 :: u188 :: u189 :: u190 :: u191 :: u192 :: u193 :: u194 :: u195 :: u196 :: u197 :: u198 :: u199 :: u200 :: u201 :: u202 :: u203 :: u204 :: u205 :: u206 :: u207 :: u208 :: u209 :: u210 :: u211 :: u212 :: u213 :: u214 :: u215 :: []), defers := [] } w5 := by
 have hp : Tryz.prog.follows .mixedOrders = true := by kernel_rfl
 conv => enter [2]; whnf
 have n1b : (m.kind == 1) = false := by simpa using n1
 have n2b : (m.kind == 2) = false := by simpa using n2
 have hgl5 : R5.g < w5.heap.size := HD5.out.lt
 have hgtl5 : R5.gt < w5.heap.size := HD5.out.tab.lt
 have hbn : bm ≠ R5.g := fun e => HLO.out R5.g R5.mem_g e.symm
 have m0 : w5.cell? ⟨bm, 0, none⟩ = some (.int .i64 m.kind) := cell_of_row w5 _ 0 _ _ _ HRM.out
 have m1 : w5.cell? ⟨bm, 1, none⟩ = some (.int .i64 m.frm) := cell_of_row w5 _ 1 _ _ _ HRM.out
 have m3 : w5.cell? ⟨bm, 3, none⟩ = some (.int .i64 m.seq) := cell_of_row w5 _ 3 _ _ _ HRM.out
 have m4 : w5.cell? ⟨bm, 4, none⟩ = some (.int .i64 m.node) := cell_of_row w5 _ 4 _ _ _ HRM.out
 have k3 : w5.cell? ⟨R5.g, 3, none⟩ = some (.pointer (some ⟨R5.gt, 0, none⟩)) := HD5.out.cell 3
 have k0 : w5.cell? ⟨R5.gt, 0, none⟩ = some (.int .i64 d5.self) := HD5.out.tab.self
 have HKP : Hid (∀ W, Below w5.heap.size w5 W → W.cell? ⟨bm, 1, none⟩ = some (.int .i64 m.frm) ∧ W.cell? ⟨bm, 3, none⟩ = some (.int .i64 m.seq) ∧ W.cell? ⟨bm, 4, none⟩ = some (.int .i64 m.node) ∧ W.cell? ⟨R5.g, 3, none⟩ = some (.pointer (some ⟨R5.gt, 0, none⟩)) ∧ W.cell? ⟨R5.gt, 0, none⟩ = some (.int .i64 d5.self)) := fun W hW =>
  ⟨(hW.cell (p := ⟨bm, 1, none⟩) hs6).trans m1, (hW.cell (p := ⟨bm, 3, none⟩) hs6).trans m3, (hW.cell (p := ⟨bm, 4, none⟩) hs6).trans m4, (hW.cell (p := ⟨R5.g, 3, none⟩) hgl5).trans k3, (hW.cell (p := ⟨R5.gt, 0, none⟩) hgtl5).trans k0⟩
 have n3b : (m.kind == 3) = false := by simpa using n3
 have hdo : doOn d5 m.got = (d5, []) := by unfold doOn; rw [if_neg (show ¬ m.got.kind = 1 from n1), if_neg (show ¬ m.got.kind = 2 from n2), if_neg (show ¬ m.got.kind = 3 from n3)]
 have HDO := Lib.hid hdo
 clear hdo n1 n2 n3
 go_wp2_with fail
 exact HPOST.out (.slice none 0 0) w5 (by rw [HDO.out]; exact RStepped.same HD5.out (Below.refl _ _))
end Go.Proofs.YtejihgfigclppaaGreat
