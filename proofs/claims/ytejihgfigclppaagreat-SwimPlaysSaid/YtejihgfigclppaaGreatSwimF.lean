/-
  Messages in memory; the detector begins a probe.
-/
import Derived.Test.YtejihgfigclppaaGreatMTell3
namespace Go.Proofs.YtejihgfigclppaaGreat
open Go.Shelf Go.RowKit Go.Lib Go.Sort
set_option linter.unusedVariables false
set_option linter.unusedSimpArgs false
abbrev PSent := Hdr × Sent
def scells (p : PSent) : List Value := [.int .i64 p.2.kind, .int .i64 p.2.frm, .int .i64 p.2.to_, .int .i64 p.2.seq, .int .i64 p.2.node, .int .i64 0, .int .i64 0, .int .i64 0, .int .i64 0, .int .i64 0, .int .i64 0, .int .i64 0, .int .i64 0, .slice none 0 0, .slice none 0 0, p.1.val]
theorem scells_len (p : PSent) : (scells p).length = 16 := rfl
theorem scells_one (p : PSent) : ∀ v ∈ scells p, v.oneCell' = true := by
 intro v hv
 simp only [scells, List.mem_cons, List.not_mem_nil, or_false] at hv
 rcases hv with rfl | rfl | rfl | rfl | rfl | rfl | rfl | rfl | rfl | rfl | rfl | rfl | rfl | rfl | rfl | rfl <;> rfl
theorem owns_new {α : Type} {enc : α → List Value} {k : Nat} (hk : ∀ x, (enc x).length = k) (W : World) (cs : Array Value) (e : TypeId) (l : List α) (hc : cs.toList = l.flatMap enc) (hm : l.length ≤ 1000000) : Owns enc k W.heap.size e (W.alloc (.cells cs e)) (.slice (some ⟨W.heap.size, 0, none⟩) l.length l.length) l := by
 have hl := flat_len enc k hk l
 have hs : cs.size = l.length * k := by rw [← Array.length_toList, hc, hl]
 exact ⟨hl, .inr ⟨W.heap.size, l.length, cs, rfl, Nat.le_refl _, heap_alloc_new W _, Nat.le_refl _, by unfold maxLen; omega, hs, by rw [hc]; exact List.take_of_length_le (Nat.le_of_eq hl)⟩⟩
def MsgsAt (base : Nat) (w : World) (v : Value) (ps : List PSent) : Prop := Owns scells 16 base 42 w v ps ∧ ∀ p ∈ ps, Owns Mb.cells 3 base 45 w p.1.val p.2.ms
theorem MsgsAt.none (base : Nat) (w : World) : MsgsAt base w (.slice none 0 0) [] := ⟨Owns.nil _ _ _ _ _, fun p hp => by cases hp⟩
def Aside (L : List Nat) (v : Value) (ps : List PSent) : Prop := ∀ b, (v.ownBlock = some b ∨ ∃ p ∈ ps, p.1.val.ownBlock = some b) → b ∉ L
theorem Aside.none (L : List Nat) : Aside L (.slice none 0 0) [] := fun b h => by
 rcases h with h | ⟨p, hp, _⟩
 ·cases h
 ·cases hp
theorem DetAt.turnedOrd {W W' : World} {M : DM} {d : Det} (h : DetAt W M d) (hg : W.grownBy W' (some M.go)) {s : Int} {ws : List Int} {wb : Option Nat} (hw : WaitsAt W' M.go wb s ws) (hn : ∀ b, wb = some b → W.heap.size ≤ b) : DetAt W' { M with wb := wb } { d with s := s, ws := ws } := by
 obtain ⟨n1, n2, n3, n4, n5, n6, n7, n8, n9⟩ := nod_ne h.nod
 have ho : ∀ k, k < W.heap.size → k ≠ M.go → W'.heap[k]? = W.heap[k]? := fun k hk hne => hg.block k hk fun e => hne (Option.some.inj e)
 refine {
  obj := (ho _ h.lt n2).trans h.obj
  tab := h.tab.keep (ho _ h.tab.lt n4)
  ord := hw
  since := h.since.kept (ho _ h.since.lt n6.symm)
  prs := h.prs.keep fun b hb => ho b (h.prs.lt b hb) (n7 b hb).2.2.1
  ers := h.ers.keep fun b hb => ho b (h.ers.lt b hb).2 (n8 b hb).2.2.1
  nod := ?_ }
 have hnd := h.nod
 have hlt := h.own_lt
 unfold DM.own at hnd hlt ⊢
 have e : ∀ x : List Nat, M.g :: M.gt :: M.go :: M.gm :: (M.pb.toList ++ (M.ev.ownBlock.toList ++ x)) = (M.g :: M.gt :: M.go :: M.gm :: (M.pb.toList ++ M.ev.ownBlock.toList)) ++ x := fun x => by simp
 rw [e] at hnd hlt ⊢
 rw [List.nodup_append] at hnd ⊢
 refine ⟨hnd.1, ?_, fun a ha b hb hab => ?_⟩
 ·cases wb <;> simp
 ·have h1 := hlt a (List.mem_append_left _ ha)
  have h2 := hn b (by simpa using hb)
  omega
theorem DetAt.setPr {W W' : World} {M : DM} {d : Det} (h : DetAt W M d) (hp : M.pb = none) {b : Nat} (hb : W.heap.size ≤ b) {p : Int × Int} {bg : Int} (hB : W'.heap[b]? = some (.cells #[.int .i64 p.1, .int .i64 p.2] 130)) (hG : W'.heap[M.g]? = some (.cells (dcells { M with pb := some b } { d with pr := some p, began := bg }) 95)) (hg : W.grownBy W' (some M.g)) : DetAt W' { M with pb := some b } { d with pr := some p, began := bg } := by
 obtain ⟨n1, n2, n3, n4, n5, n6, n7, n8, n9⟩ := nod_ne h.nod
 have ho : ∀ k, k < W.heap.size → k ≠ M.g → W'.heap[k]? = W.heap[k]? := fun k hk hne => hg.block k hk fun e => hne (Option.some.inj e)
 refine {
  obj := hG
  tab := h.tab.keep (ho _ h.tab.lt n1.symm)
  ord := h.ord.keep (ho _ h.ord.lt n2.symm) fun b hb => ho b (h.ord.lt2 b hb) (n9 b hb).1
  since := h.since.kept (ho _ h.since.lt n3.symm)
  prs := hB
  ers := h.ers.keep fun b hb => ho b (h.ers.lt b hb).2 (n8 b hb).1
  nod := ?_ }
 have hnd := h.nod
 have hlt := h.own_lt
 have hnot : b ∉ M.own := fun hm => by have := hlt b hm; omega
 unfold DM.own at hnd hnot ⊢
 rw [hp] at hnd hnot
 simp only [Option.toList_none, List.nil_append, Option.toList_some, List.cons_append] at hnd hnot ⊢
 have e : ∀ x : List Nat, List.Perm (M.g :: M.gt :: M.go :: M.gm :: b :: x) (b :: M.g :: M.gt :: M.go :: M.gm :: x) := fun x => (List.perm_middle (a := b) (l₁ := [M.g, M.gt, M.go, M.gm]) (l₂ := x))
 rw [(e _).nodup_iff, List.nodup_cons]
 exact ⟨hnot, hnd⟩
set_option maxRecDepth 100000 in
set_option maxHeartbeats 16000000 in
theorem begin_any (M : DM) (d : Det) (hok : DetOk d) (w : World) (h : DetAt w M d) :
  Calls Tryz.prog 49 #[.pointer (some ⟨M.g, 0, none⟩)] w fun e w' => ∃ M' v ps, e = .returned v ∧ DetAt w' M' d.begin.1 ∧ MsgsAt w.heap.size w' v ps ∧ ps.map (·.2) = d.begin.2 ∧ Aside M'.own v ps ∧ NewM M M' w ∧ Touch (fun k => k = M.g ∨ k = M.go) w w' := by
 have hp : Tryz.prog.follows .mixedOrders = true := by kernel_rfl
 have HD := Lib.hid h
 have hpr := h.prs
 have k9 : w.cell? ⟨M.g, 9, none⟩ = some (prV M.pb) := h.cell 9
 cases hd : d.pr with
 | some p =>
  rw [hd] at hpr
  obtain ⟨b, hpb⟩ : ∃ b, M.pb = some b := by cases hm : M.pb with
   | none => rw [hm] at hpr; exact hpr.elim
   | some b => exact ⟨b, rfl⟩
  rw [hpb] at k9
  have k9' : w.cell? ⟨M.g, 9, none⟩ = some (.pointer (some ⟨b, 0, none⟩)) := k9
  have hbg : d.begin = (d, []) := by unfold Det.begin; rw [hd]
  rw [hbg]
  clear hbg hpr hd h k9
  go_enter Tryz.func49, Tryz.ntmps49
  go_wp2_with fail
  go_ret
  exact ⟨M, .slice none 0 0, [], rfl, HD.out, MsgsAt.none _ _, rfl, Aside.none _, NewM.refl _ _, Touch.refl _ _⟩
 | none =>
  rw [hd] at hpr
  have hpb : M.pb = none := by cases hm : M.pb with
   | none => rfl
   | some b => rw [hm] at hpr; exact hpr.elim
  rw [hpb] at k9
  have k9' : w.cell? ⟨M.g, 9, none⟩ = some (.pointer none) := k9
  have k5 : w.cell? ⟨M.g, 5, none⟩ = some (.pointer (some ⟨M.gt, 0, none⟩)) := h.cell 5
  have k6 : w.cell? ⟨M.g, 6, none⟩ = some (.pointer (some ⟨M.go, 0, none⟩)) := h.cell 6
  have hot := fun W (hW : Below w.heap.size w W) => others_any M.gt d.self d.tab W (h.tab.keep (hW.block _ h.tab.lt))
  have hol := othersT_len d.self d.tab
  have hgl := h.lt
  have hgol := h.ord.lt
  have HOT := Lib.hid hot
  have HOK := Lib.hid hok
  clear hot hpr h k9
  cases ho : othersT d.self d.tab with
  | nil =>
   have hbg : d.begin = (d, []) := by unfold Det.begin; rw [hd]; simp only [ho]; rfl
   rw [hbg]
   simp only [ho] at HOT
   clear hbg hd ho
   go_enter Tryz.func49, Tryz.ntmps49
   go_wp2_with fail
   go_cut [3, 4] (fun s3 s4 wx => s3 = .int .i64 0 ∧ s4 = .bool false ∧ Hid (Below w.heap.size w wx))
   case first =>
    go_region_held (fun w' => w'.cell? ⟨M.g, 5, none⟩ = some (.pointer (some ⟨M.gt, 0, none⟩)) ∧ w'.cell? ⟨M.g, 6, none⟩ = some (.pointer (some ⟨M.go, 0, none⟩))) (first | exact ⟨k5, k6⟩ | exact ⟨l5, l6⟩ | exact ⟨m5, m6⟩)
     (first
      | (go_at_call 51; refine (HOT.out _ (below_drew (Below.refl _ _))).mono ?_; rintro e w2 ⟨o, c, rfl, ho2, hb2⟩; have l5 := (hb2.cell (p := ⟨M.g, 5, none⟩) hgl).trans k5; have l6 := (hb2.cell (p := ⟨M.g, 6, none⟩) hgl).trans k6; have HB2 := Lib.hid ((below_drew (Below.refl w.heap.size w)).trans hb2); clear hb2 ho2)
      | (go_at_call 87; refine (nextNone_any M.go o c w2).mono ?_; rintro e w3 ⟨rfl, hb3⟩; have hg2 : M.g < w2.heap.size := Nat.lt_of_lt_of_le hgl HB2.out.size; have m5 := (hb3.cell (p := ⟨M.g, 5, none⟩) hg2).trans l5; have m6 := (hb3.cell (p := ⟨M.g, 6, none⟩) hg2).trans l6; have HB3 := Lib.hid (HB2.out.trans (hb3.mono HB2.out.size)); clear hb3))
    all_goals
     go_wp2_with fail
     go_meet
     exact ⟨rfl, rfl, HB3⟩
   case rest =>
    obtain ⟨rfl, rfl, HB⟩ := hcut
    go_wp2_with fail
    go_ret
    exact ⟨M, .slice none 0 0, [], rfl, HD.out.below HB.out, MsgsAt.none _ _, rfl, Aside.none _, NewM.refl _ _, Touch.of_below HB.out (Nat.le_refl _)⟩
  | cons o1 os =>
   have hne : othersT d.self d.tab ≠ [] := by rw [ho]; exact List.cons_ne_nil _ _
   have hbg : d.begin = ({ d with s := (nextL d.s d.ws (othersT d.self d.tab)).1, ws := (nextL d.s d.ws (othersT d.self d.tab)).2.tail, num := d.num + 1, pr := some (d.num + 1, (nextL d.s d.ws (othersT d.self d.tab)).2.headD 0), began := d.clock }, [⟨1, d.self, (nextL d.s d.ws (othersT d.self d.tab)).2.headD 0, d.num + 1, 0, allT d.tab⟩]) := by
    unfold Det.begin; rw [hd]; simp only [if_neg hne]; rfl
   have hws := HOK.out.ws
   clear ho
   generalize hnd : othersT d.self d.tab = nd at *
   obtain ⟨⟨s', l'⟩, hr⟩ : ∃ r, nextL d.s d.ws nd = r := ⟨_, rfl⟩
   rw [hr] at hbg
   dsimp only at hbg
   have hnx := fun (W : World) (hW : Below w.heap.size w W) o c (hs : Owns icells 1 w.heap.size 3 W (.slice o nd.length c) nd) => next_anyB M.go (M.go + 1) W.heap.size d.s d.ws o c nd W (HD.out.below hW).ord.obj (Nat.lt_of_lt_of_le hgol hW.size) (Nat.le_refl _) hs.at hne (fun g hg => by have := (hs.lt g hg).1; omega) (by omega) (by omega)
   simp only [hr] at hnx
   have HNX := Lib.hid hnx
   have HBG := Lib.hid hbg
   clear hnx hbg hr hd hnd
   go_enter Tryz.func49, Tryz.ntmps49
   go_wp2_with fail
   go_cut [3, 4] (fun s3 s4 wx => ∃ x wq, s3 = .int .i64 x ∧ s4 = .bool true ∧ Hid (l'.head? = some x) ∧ Hid (Obj 139 M.go wq.heap.size wx s' l'.tail) ∧ Hid (Below w.heap.size w wq) ∧ Hid (wq.grownBy wx (some M.go)))
   case first =>
    go_region_held (fun w' => w'.cell? ⟨M.g, 5, none⟩ = some (.pointer (some ⟨M.gt, 0, none⟩)) ∧ w'.cell? ⟨M.g, 6, none⟩ = some (.pointer (some ⟨M.go, 0, none⟩))) (first | exact ⟨k5, k6⟩ | exact ⟨l5, l6⟩ | exact ⟨m5, m6⟩)
     (first
      | (go_at_call 51; refine (HOT.out _ (below_drew (Below.refl _ _))).mono ?_; rintro e w2 ⟨o, c, rfl, ho2, hb2⟩; have l5 := (hb2.cell (p := ⟨M.g, 5, none⟩) hgl).trans k5; have l6 := (hb2.cell (p := ⟨M.g, 6, none⟩) hgl).trans k6; have HO2 := Lib.hid ho2; have HB2 := Lib.hid ((below_drew (Below.refl w.heap.size w)).trans hb2); clear hb2 ho2)
      | (go_at_call 87; refine (HNX.out w2 HB2.out o c HO2.out).mono ?_; rintro e w3 ⟨x, rfl, hx, hob, hg3⟩; have hg2 : M.g < w2.heap.size := Nat.lt_of_lt_of_le hgl HB2.out.size; have hng : M.g ≠ M.go := (nod_ne HD.out.nod).2.1; have m5 := (World.cell?_of_block (a := ⟨M.g, 5, none⟩) (hg3.block M.g hg2 (fun e => hng (Option.some.inj e)))).trans l5; have m6 := (World.cell?_of_block (a := ⟨M.g, 6, none⟩) (hg3.block M.g hg2 (fun e => hng (Option.some.inj e)))).trans l6; have HX := Lib.hid hx; have HOB := Lib.hid hob; have HG3 := Lib.hid hg3; clear hx hob hg3))
    all_goals
     go_wp2_with fail
     go_meet
     exact ⟨x, w2, rfl, rfl, HX, HOB, HB2, HG3⟩
   case rest =>
    obtain ⟨x, wq, rfl, rfl, HX, HOB, HBQ, HGQ⟩ := hcut
    obtain ⟨wb, hwt, hwb⟩ := waits_of HOB.out
    have hDq := HD.out.below HBQ.out
    have hD3 := hDq.turnedOrd HGQ.out hwt hwb
    have hq9 : w.heap.size ≤ wc.heap.size := Nat.le_trans HBQ.out.size HGQ.out.size
    have hT3 : Touch (fun k => k = M.g ∨ k = M.go) w wc := (Touch.of_below HBQ.out (Nat.le_refl _)).trans (Touch.of_grown (L := fun k => k = M.g ∨ k = M.go) HGQ.out fun j hj => .inr (Option.some.inj hj).symm) fun _ _ h => h
    have hN3 : NewM M { M with wb := wb } w := ⟨rfl, rfl, rfl, rfl, fun k hk => by
     simp only [DM.own, List.mem_cons, List.mem_append, Option.mem_toList] at hk ⊢
     rcases hk with e | e | e | e | e | e | e
     ·exact .inl (.inl e)
     ·exact .inl (.inr (.inl e))
     ·exact .inl (.inr (.inr (.inl e)))
     ·exact .inl (.inr (.inr (.inr (.inl e))))
     ·exact .inl (.inr (.inr (.inr (.inr (.inl e)))))
     ·exact .inl (.inr (.inr (.inr (.inr (.inr (.inl e))))))
     ·exact .inr (Nat.le_trans HBQ.out.size (hwb k e))⟩
    have c8 : wc.cell? ⟨M.g, 8, none⟩ = some (.int .i64 d.num) := hD3.cell 8
    have z8 : wc.frozen? ⟨M.g, 8, none⟩ = false := hD3.frozen 8
    have hnum := HOK.out.num
    have hw8 : IntKind.i64.wrap (d.num + 1) = d.num + 1 := by rw [IntKind.wrap_i64]; omega
    have hD4 := hD3.scalar (d' := { d with s := s', ws := l'.tail, num := d.num + 1 }) 8 (.int .i64 (d.num + 1)) rfl ⟨rfl, rfl, rfl, rfl, rfl, rfl, rfl⟩
    have c8' : (wc.setCell ⟨M.g, 8, none⟩ (.int .i64 (d.num + 1))).cell? ⟨M.g, 8, none⟩ = some (.int .i64 (d.num + 1)) := hD4.cell 8
    have c7 : (wc.setCell ⟨M.g, 8, none⟩ (.int .i64 (d.num + 1))).cell? ⟨M.g, 7, none⟩ = some (.int .i64 d.clock) := hD4.cell 7
    have c9 : (wc.setCell ⟨M.g, 8, none⟩ (.int .i64 (d.num + 1))).cell? ⟨M.g, 9, none⟩ = some (prV M.pb) := hD4.cell 9
    rw [hpb] at c9
    have c9' : (wc.setCell ⟨M.g, 8, none⟩ (.int .i64 (d.num + 1))).cell? ⟨M.g, 9, none⟩ = some (.pointer none) := c9
    have c10 : (wc.setCell ⟨M.g, 8, none⟩ (.int .i64 (d.num + 1))).cell? ⟨M.g, 10, none⟩ = some (.int .i64 d.began) := hD4.cell 10
    have hz : ∀ k, (wc.setCell ⟨M.g, 8, none⟩ (.int .i64 (d.num + 1))).frozen? ⟨M.g, k, none⟩ = false := fun k => hD4.frozen k
    have z9 := hz 9
    have z10 := hz 10
    have hT4 := hT3.trans (touch_set (fun k => k = M.g ∨ k = M.go) wc ⟨M.g, 8, none⟩ (.int .i64 (d.num + 1)) (.inl rfl)) fun _ _ h => h
    have HD4 := Lib.hid hD4
    have HT4 := Lib.hid hT4
    have HN3 := Lib.hid hN3
    have hs4 : w.heap.size ≤ (wc.setCell ⟨M.g, 8, none⟩ (.int .i64 (d.num + 1))).heap.size := by simpa [World.setCell] using hq9
    have hgl4 : M.g < (wc.setCell ⟨M.g, 8, none⟩ (.int .i64 (d.num + 1))).heap.size := Nat.lt_of_lt_of_le hgl hs4
    clear hT3 hN3 hD3 hT4 hD4 c9 hz hwt hwb hDq HOB HBQ HGQ HNX HOT HD hne hol hws hgol hgl hq9 hnum k9' k5 k6
    go_wp2_with fail
    clear c8 z8 hw8
    generalize wc.setCell ⟨M.g, 8, none⟩ (.int .i64 (d.num + 1)) = w6 at *
    go_cut [3] (fun s3 wx => ∃ b, s3 = .int .i64 x ∧ w6.heap.size ≤ b ∧ Hid (wx.heap[b]? = some (.cells #[.int .i64 (d.num + 1), .int .i64 x] 130)) ∧ Hid (wx.heap[M.g]? = some (.cells (dcells { M with wb := wb, pb := some b } { d with s := s', ws := l'.tail, num := d.num + 1, pr := some (d.num + 1, x), began := d.clock }) 95)) ∧ Hid (w6.grownBy wx (some M.g)))
    case first =>
     have hsz9 : ((w6.setCell ⟨M.g, 9, none⟩ (.pointer (some ⟨w6.heap.size, 0, none⟩))).setCell ⟨M.g, 10, none⟩ (.int .i64 d.clock)).heap.size = w6.heap.size := by simp [World.setCell]
     have hb9 := heap_alloc_new ((w6.setCell ⟨M.g, 9, none⟩ (.pointer (some ⟨w6.heap.size, 0, none⟩))).setCell ⟨M.g, 10, none⟩ (.int .i64 d.clock)) (.cells #[.int .i64 (d.num + 1), .int .i64 x] 130)
     rw [hsz9] at hb9
     have hg9 := (Below.heap_alloc ((w6.setCell ⟨M.g, 9, none⟩ (.pointer (some ⟨w6.heap.size, 0, none⟩))).setCell ⟨M.g, 10, none⟩ (.int .i64 d.clock)) (.cells #[.int .i64 (d.num + 1), .int .i64 x] 130) M.g (by rw [hsz9]; exact hgl4)).trans (heap_setCell_same _ M.g 10 (.int .i64 d.clock) _ _ _ (heap_setCell_same w6 M.g 9 (.pointer (some ⟨w6.heap.size, 0, none⟩)) _ _ _ HD4.out.obj))
     have hw9 : w6.grownBy (((w6.setCell ⟨M.g, 9, none⟩ (.pointer (some ⟨w6.heap.size, 0, none⟩))).setCell ⟨M.g, 10, none⟩ (.int .i64 d.clock)).alloc (.cells #[.int .i64 (d.num + 1), .int .i64 x] 130)).drew (some M.g) := gb_then (gb_then (gb_then (gb_set w6 M.g 9 _) (gb_set _ M.g 10 _) fun j hj => .inr hj) (World.grownBy_alloc _ _ (some M.g)) fun j hj => .inr hj) (gb_drew _ (some M.g)) fun j hj => .inr hj
     have HB9 := Lib.hid hb9
     have HG9 := Lib.hid hg9
     have HW9 := Lib.hid hw9
     clear hb9 hg9 hw9
     go_region_law (fail)
     all_goals
      go_wp2_with fail
      go_meet
      exact ⟨w6.heap.size, rfl, Nat.le_refl _, HB9.out, HG9.out, HW9.out⟩
    case rest =>
     obtain ⟨b, rfl, hbw, HB6, HG6, HGR⟩ := hcut
     have hD7 := HD4.out.setPr (p := (d.num + 1, x)) (bg := d.clock) hpb hbw HB6.out HG6.out HGR.out
     have e8 : wc.cell? ⟨M.g, 8, none⟩ = some (.int .i64 (d.num + 1)) := hD7.cell 8
     have hse := send_any { M with wb := wb, pb := some b } { d with s := s', ws := l'.tail, num := d.num + 1, pr := some (d.num + 1, x), began := d.clock } 1 x (d.num + 1) 0 wc hD7
     have hT7 := HT4.out.trans (Touch.of_grown (L := fun k => k = M.g ∨ k = M.go) HGR.out fun j hj => .inl (Option.some.inj hj).symm) fun _ _ h => h
     have HSE := Lib.hid hse
     have HD7 := Lib.hid hD7
     have HT7 := Lib.hid hT7
     clear hse hD7 hT7 HD4 HT4 HG6 HB6 c7 c8' c9' c10 z9 z10
     go_wp2_with fail
     refine HSE.out.mono ?_
     rintro e w8 ⟨o8, c8, rfl, ho8, hb8⟩
     have HO8 := Lib.hid ho8
     have HB8 := Lib.hid hb8
     clear ho8 hb8 HSE
     unfold sentV Det.send
     dsimp only
     go_wp2_with fail
     have hb9 : Below wc.heap.size wc (w8.alloc (.cells #[.int .i64 1, .int .i64 d.self, .int .i64 x, .int .i64 (d.num + 1), .int .i64 0, .int .i64 0, .int .i64 0, .int .i64 0, .int .i64 0, .int .i64 0, .int .i64 0, .int .i64 0, .int .i64 0, .slice none 0 0, .slice none 0 0, .slice o8 (allT d.tab).length c8] 42)) := HB8.out.alloc HB8.out.size _
     have hown : Owns scells 16 w8.heap.size 42 (w8.alloc (.cells #[.int .i64 1, .int .i64 d.self, .int .i64 x, .int .i64 (d.num + 1), .int .i64 0, .int .i64 0, .int .i64 0, .int .i64 0, .int .i64 0, .int .i64 0, .int .i64 0, .int .i64 0, .int .i64 0, .slice none 0 0, .slice none 0 0, .slice o8 (allT d.tab).length c8] 42)) (.slice (some ⟨w8.heap.size, 0, none⟩) 1 1) [((⟨o8, (allT d.tab).length, c8⟩ : Hdr), (⟨1, d.self, x, d.num + 1, 0, allT d.tab⟩ : Sent))] := owns_new scells_len w8 _ _ [((⟨o8, (allT d.tab).length, c8⟩ : Hdr), (⟨1, d.self, x, d.num + 1, 0, allT d.tab⟩ : Sent))] rfl (by simp)
     have hx : l'.headD 0 = x := by have := HX.out; cases l' with
      | nil => cases this
      | cons y l => simpa using this
     have hw0 : w.heap.size ≤ wc.heap.size := Nat.le_trans hs4 HGR.out.size
     have hlt := HD7.out.own_lt
     go_ret
     refine ⟨{ M with wb := wb, pb := some b }, _, [((⟨o8, (allT d.tab).length, c8⟩ : Hdr), (⟨1, d.self, x, d.num + 1, 0, allT d.tab⟩ : Sent))], rfl, ?_, ⟨hown.lower (Nat.le_trans hw0 HB8.out.size), fun p hp => ?_⟩, ?_, fun k hk hm => ?_, ⟨rfl, rfl, rfl, rfl, fun k hk => ?_⟩, HT7.out.trans (Touch.of_below hb9 (Nat.le_refl _)) fun _ _ h => h⟩
     ·rw [HBG.out, hx]
      exact HD7.out.below hb9
     ·rw [List.mem_singleton] at hp
      subst hp
      exact (HO8.out.below ((Below.refl _ _).alloc (Nat.le_refl _) _) (Nat.le_refl _)).lower hw0
     ·rw [HBG.out, hx]
      rfl
     ·have h1 := hlt k hm
      rcases hk with hk | ⟨p, hp, hk⟩
      ·have : w8.heap.size = k := by simpa [Value.ownBlock] using hk
       have := HB8.out.size
       omega
      ·rw [List.mem_singleton] at hp
       subst hp
       have := (HO8.out.lt k hk).1
       omega
     ·by_cases e : k = b
      ·exact .inr (by omega)
      ·refine HN3.out.own k ?_
       simp only [DM.own, List.mem_cons, List.mem_append, Option.mem_toList] at hk ⊢
       rcases hk with h | h | h | h | h | h | h
       ·exact .inl h
       ·exact .inr (.inl h)
       ·exact .inr (.inr (.inl h))
       ·exact .inr (.inr (.inr (.inl h)))
       ·exact absurd (Option.some.inj h).symm e
       ·exact .inr (.inr (.inr (.inr (.inr (.inl h)))))
       ·exact .inr (.inr (.inr (.inr (.inr (.inr h)))))
end Go.Proofs.YtejihgfigclppaaGreat
