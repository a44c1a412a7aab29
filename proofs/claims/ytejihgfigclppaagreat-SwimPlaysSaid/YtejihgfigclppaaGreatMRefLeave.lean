/-
  The reference's detector leaves.
  When a detector holds a number of when: just for those that are suspected. No program in sight.
-/
import Derived.Test.YtejihgfigclppaaGreatMRef20
import Derived.Test.YtejihgfigclppaaGreatMRef18
import Derived.Test.YtejihgfigclppaaGreatMSwimZ
import Derived.Test.YtejihgfigclppaaGreatMSwimV
namespace Go.Proofs.YtejihgfigclppaaGreat
open Go.Shelf Go.RowKit Go.Lib Go.Sort
set_option linter.unusedVariables false
set_option linter.unusedSimpArgs false
structure RNew (R R' : RM) (w : World) : Prop where
 g : R'.g = R.g
 gt : R'.gt = R.gt
 go : R'.go = R.go
 own : ∀ k ∈ R'.own, k ∈ R.own ∨ w.heap.size ≤ k
theorem RNew.refl (R : RM) (w : World) : RNew R R w := ⟨rfl, rfl, rfl, fun k hk => .inl hk⟩
theorem RNew.trans {R R' R'' : RM} {w w' : World} (h : RNew R R' w) (k : RNew R' R'' w') (hs : w.heap.size ≤ w'.heap.size) : RNew R R'' w :=
 ⟨k.g.trans h.g, k.gt.trans h.gt, k.go.trans h.go, fun b hb => (k.own b hb).elim (h.own b) fun h => .inr (Nat.le_trans hs h)⟩
def RStepped (R : RM) (d' : Det) (out : List Sent) (w : World) (v : Value) (w' : World) : Prop := ∃ R' ps, RAt w' R' d' ∧ MsgsAt w.heap.size w' v ps ∧ ps.map (·.2) = out ∧ RNew R R' w ∧ Touch (fun k => k ∈ R.own) w w'
theorem RStepped.same {R : RM} {d : Det} {w w' : World} (h : RAt w R d) (hb : Below w.heap.size w w') : RStepped R d [] w (.slice none 0 0) w' := ⟨R, [], h.below hb, MsgsAt.none _ _, rfl, RNew.refl _ _, Touch.of_below hb (Nat.le_refl _)⟩
set_option maxHeartbeats 4000000 in
theorem rleave_left (R : RM) (d : Det) (hl : d.left = true) (w : World) (h : RAt w R d) : Calls Tryz.prog 30 #[.pointer (some ⟨R.g, 0, none⟩)] w fun e w' => e = .returned (.tuple #[.slice none 0 0, .int .i64 16]) ∧ w' = w := by
 have k21 : w.cell? ⟨R.g, 21, none⟩ = some (.bool true) := by rw [← hl]; exact h.cell 21
 clear hl h
 go_enter Tryz.func30, Tryz.ntmps30
 go_wp2_with fail
 go_ret2
 exact ⟨rfl, rfl⟩
set_option maxRecDepth 100000 in
set_option maxHeartbeats 16000000 in
theorem rleave_any (R : RM) (d : Det) (hok : DetOk d) (hl : d.left = false) (w : World) (h : RAt w R d) :
  Calls Tryz.prog 30 #[.pointer (some ⟨R.g, 0, none⟩)] w fun e w' => ∃ v, e = .returned (.tuple #[v, .int .i64 0]) ∧ RStepped R d.leave.1 d.leave.2 w v w' := by
 have hp : Tryz.prog.follows .mixedOrders = true := by kernel_rfl
 have k21 : w.cell? ⟨R.g, 21, none⟩ = some (.bool false) := by rw [← hl]; exact h.cell 21
 have z21 := h.frozen 21
 have hR1 : RAt (w.setCell ⟨R.g, 21, none⟩ (.bool true)) R { d with left := true } := h.scalar ⟨rfl, rfl, rfl, rfl, rfl⟩ ⟨rfl, rfl, rfl, rfl, rfl⟩ ⟨h.opn.pr, h.opn.sn⟩ (heap_cellSame _ _ _ _ _ _ h.obj) fun q hq => Below.heap_setCell w ⟨R.g, 21, none⟩ _ q hq
 have hT1 := touch_set (fun k => k ∈ R.own) w ⟨R.g, 21, none⟩ (.bool true) R.mem_g
 have hle : d.leave = ((Det.hear { d with left := true } ⟨d.self, 4, d.inc⟩), (othersT (Det.hear { d with left := true } ⟨d.self, 4, d.inc⟩).self (Det.hear { d with left := true } ⟨d.self, 4, d.inc⟩).tab).map fun n => (Det.hear { d with left := true } ⟨d.self, 4, d.inc⟩).send 1 n 0 0) := rfl
 have HLE := Lib.hid hle
 have HR1 := Lib.hid hR1
 have HT1 := Lib.hid hT1
 have HOK := Lib.hid hok
 have HOK2 := Lib.hid (show DetOk (Det.hear { d with left := true } ⟨d.self, 4, d.inc⟩) from hok.leaves.hear _)
 have hs1 : (w.setCell ⟨R.g, 21, none⟩ (.bool true)).heap.size = w.heap.size := by simp [World.setCell]
 clear hR1 hT1 hle hok h
 go_enter Tryz.func30, Tryz.ntmps30
 go_wp2_with fail
 generalize w.setCell ⟨R.g, 21, none⟩ (.bool true) = w1 at *
 have k0 : w1.cell? ⟨R.gt, 0, none⟩ = some (.int .i64 d.self) := HR1.out.tab.self
 have k3 : w1.cell? ⟨R.g, 3, none⟩ = some (.pointer (some ⟨R.gt, 0, none⟩)) := HR1.out.cell 3
 have k11 : w1.cell? ⟨R.g, 11, none⟩ = some (.int .i64 d.inc) := HR1.out.cell 11
 have hhe := rdhear_any R { d with left := true } HOK.out.leaves ⟨d.self, 4, d.inc⟩ w1.drew (HR1.out.keep fun _ _ => rfl)
 have HHE := Lib.hid hhe
 clear hhe k21 z21
 go_cut [27] (fun s27 wx => s27 = .tuple #[] ∧ Hid (∃ f, RAt wx { R with sn := f } (Det.hear { d with left := true } ⟨d.self, 4, d.inc⟩)) ∧ Hid (Touch (fun k => k ∈ R.own) w wx))
 case first =>
  go_region_held (fun w' => w'.cell? ⟨R.g, 3, none⟩ = some (.pointer (some ⟨R.gt, 0, none⟩)) ∧ w'.cell? ⟨R.gt, 0, none⟩ = some (.int .i64 d.self) ∧ w'.cell? ⟨R.g, 11, none⟩ = some (.int .i64 d.inc)) (first | exact ⟨k3, k0, k11⟩ | exact ⟨j3, j0, j11⟩) (first | (go_at_call 63; refine HHE.out.mono ?_; rintro e w7 ⟨rfl, f, hR7, hT7⟩; have j3 : w7.cell? ⟨R.g, 3, none⟩ = some (.pointer (some ⟨R.gt, 0, none⟩)) := hR7.cell 3; have j0 : w7.cell? ⟨R.gt, 0, none⟩ = some (.int .i64 d.self) := hR7.tab.self.trans (congrArg (fun z => some (Value.int .i64 z)) (hear_self _ _)); have j11 : w7.cell? ⟨R.g, 11, none⟩ = some (.int .i64 d.inc) := (hR7.cell 11).trans (congrArg (fun z => some (Value.int .i64 z)) (hear_inc _ _))))
  all_goals
   go_wp2_with fail
   go_meet
   exact ⟨rfl, ⟨f, hR7⟩, (HT1.out.trans (Touch.of_grown (L := fun k => k ∈ R.own) (gb_drew w1 none) (fun j hj => by cases hj)) fun _ _ h => h).trans hT7 fun n hn hL => hL.elim (fun e => by rw [e]; exact R.mem_g) fun e => by rw [e]; exact R.mem_gt⟩
 case rest =>
  obtain ⟨rfl, HRF, HT2⟩ := hcut
  obtain ⟨f, hRF⟩ := HRF.out
  have HR2 := Lib.hid hRF
  clear HHE k0 k3 k11 HR1 HT1 HRF hRF
  generalize Det.hear { d with left := true } ⟨d.self, 4, d.inc⟩ = d2 at *
  have hs2 : w.heap.size ≤ wc.heap.size := HT2.out.size
  have k3 : wc.cell? ⟨R.g, 3, none⟩ = some (.pointer (some ⟨R.gt, 0, none⟩)) := HR2.out.cell 3
  have hot := rothers_any R.gt d2.self d2.tab HOK2.out.tab wc HR2.out.tab
  have HOT := Lib.hid hot
  clear hot
  go_wp2_with fail
  refine HOT.out.mono ?_
  rintro e w3 ⟨o3, c3, rfl, ho3, hb3⟩
  have hlen := othersT_len d2.self d2.tab
  have HR3 := Lib.hid (HR2.out.below hb3)
  have HT3 := Lib.hid (HT2.out.trans (Touch.of_below (L := fun k => k ∈ R.own) hb3 (Nat.le_refl _)) fun _ _ h => h)
  have hs3 : w.heap.size ≤ w3.heap.size := by have := hb3.size; omega
  have HO3 := Lib.hid ho3
  clear hb3 ho3 HOT HR2 HT2
  generalize hL : othersT d2.self d2.tab = L at *
  have HL := Lib.hid hL
  clear hL
  go_wp2_with fail
  go_loopg [4, 6, 34] L.length (fun gk s4 s6 s34 wr => ∃ (i : Nat) (oq : Option Addr) (cq : Nat) (ps : List PSent), s34 = .int .i64 i ∧ s4 = .slice oq ps.length cq ∧ i ≤ L.length ∧ L.length - i ≤ gk ∧ Hid (MsgsAt w3.heap.size wr (.slice oq ps.length cq) ps) ∧ Hid (ps.map (·.2) = (L.take i).map fun n => d2.send 1 n 0 0) ∧ Hid (Below w3.heap.size w3 wr))
  case atStart => exact ⟨0, none, 0, [], rfl, rfl, Nat.zero_le _, Nat.le_refl _, MsgsAt.none _ _, rfl, Below.refl _ _⟩
  case round =>
   obtain ⟨i, oq, cq, ps, rfl, rfl, hi, hgk, HMS, HMP, HBW⟩ := hrel
   by_cases hlt : i < L.length
   ·have hltz : (i : Int) < (L.length : Int) := by omega
    have hsl := (HO3.out.at).below icells_len (by decide) HBW.out (Nat.le_refl _)
    obtain ⟨lb, loff, rfl⟩ := hsl.plain icells_len (by decide) (by intro e; rw [e] at hlt; exact absurd hlt (by simp))
    have cx := hsl.cell icells_len (i := i) (c := 0) hlt (by decide)
    replace cx : wr.cell? ⟨lb, loff + i, none⟩ = some (.int .i64 L[i]) := by
     have e : loff + (i * 1 + 0) = loff + i := by omega
     rw [e] at cx
     exact cx
    have htk : (L.take (i + 1)).map (fun n => d2.send 1 n 0 0) = (L.take i).map (fun n => d2.send 1 n 0 0) ++ [d2.send 1 L[i] 0 0] := by rw [List.take_succ_eq_append_getElem hlt, List.map_append]; rfl
    have hpl : ps.length = i := by have := congrArg List.length HMP.out; simp only [List.length_map, List.length_take] at this; omega
    have HTK := Lib.hid htk
    have HMP2 := Lib.hid HMP.out
    generalize L[i] = x at *
    have hRr := HR3.out.below HBW.out
    have hse := rsend_any { R with sn := f } d2 1 x 0 0 wr HOK2.out hRr
    have HSE := Lib.hid hse
    have hl8 : ps.length ≤ 8 := by omega
    have HPL := Lib.hid hpl
    have hB : w3.heap.size ≤ wr.heap.size := HBW.out.size
    clear htk hRr hse hsl HMP hpl
    go_wp2_with fail
    refine HSE.out.mono ?_
    rintro e w8 ⟨o8, c8, rfl, ho8, hb8⟩
    have HO8 := Lib.hid ho8
    have HB8 := Lib.hid hb8
    clear ho8 hb8 HSE cx
    unfold sentV Det.send
    dsimp only
    go_wp2_with (at_builtin; refine wpList_app scells 16 scells_len (by decide) scells_one _ rfl _ _ 34 rfl w3.heap.size 42 _ 176 Tryz.underlying34 infoMsg rfl _ ps rfl ?h1 _ [((⟨o8, (allT d2.tab).length, c8⟩ : Hdr), d2.send 1 x 0 0)] rfl ?h2 ?h3 ?h4 ?h5 ?_)
    case h1 => exact (HMS.out.1.below HB8.out (Nat.le_refl _)).below ((Below.refl _ _).alloc (Nat.le_refl _) _) (Nat.le_refl _)
    case h2 => exact (owns_new scells_len w8 (scells (⟨o8, (allT d2.tab).length, c8⟩, d2.send 1 x 0 0)).toArray 42 [((⟨o8, (allT d2.tab).length, c8⟩ : Hdr), d2.send 1 x 0 0)] (by simp) (by simp)).at
    case h3 => simp only [List.length_singleton]; omega
    case h4 => simp only [List.length_singleton]; omega
    case h5 => have := HB8.out.size; simp; omega
    intro v2 w2 hown2 hg2 hv2
    have hM8 : MsgsAt w3.heap.size (w8.alloc (.cells (scells (⟨o8, (allT d2.tab).length, c8⟩, d2.send 1 x 0 0)).toArray 42)) (.slice oq ps.length cq) ps := (HMS.out.below HB8.out (Nat.le_refl _)).below ((Below.refl _ _).alloc (Nat.le_refl _) _) (Nat.le_refl _)
    have hmm := msgs_app (ms := [((⟨o8, (allT d2.tab).length, c8⟩ : Hdr), d2.send 1 x 0 0)]) hM8 (fun q hq => by
     rw [List.mem_singleton] at hq
     subst hq
     exact (HO8.out.below ((Below.refl _ _).alloc (Nat.le_refl _) _) (Nat.le_refl _)).lower hB) hown2 hg2
    obtain ⟨oz, cz, rfl⟩ := slAt_slice hown2.at
    have hBX : Below w3.heap.size w3 w2 := ((HBW.out.trans (HB8.out.mono HBW.out.size)).alloc (by have := HB8.out.size; omega) (.cells (scells (⟨o8, (allT d2.tab).length, c8⟩, d2.send 1 x 0 0)).toArray 42)).grown hg2 (by have := HB8.out.size; simp; omega) fun k hk => (HMS.out.1.lt k hk).1
    have HM2 := Lib.hid hmm
    have HP2 : Hid ((ps ++ [((⟨o8, (allT d2.tab).length, c8⟩ : Hdr), d2.send 1 x 0 0)]).map (·.2) = (L.take (i + 1)).map fun n => d2.send 1 n 0 0) := by
     show (ps ++ [((⟨o8, (allT d2.tab).length, c8⟩ : Hdr), d2.send 1 x 0 0)]).map (·.2) = _
     rw [List.map_append, HMP2.out, HTK.out]
     rfl
    have HBX := Lib.hid hBX
    clear hM8 hmm hown2 hg2 hv2 hBX HMS HBW HB8 HO8
    go_wp2_with fail
    go_roundg (L.length - (i + 1))
    case measure => omega
    case rel => exact ⟨i + 1, oz, cz, ps ++ [((⟨o8, (allT d2.tab).length, c8⟩ : Hdr), d2.send 1 x 0 0)], by go_num, rfl, by omega, Nat.le_refl _, HM2.out, HP2.out, HBX.out⟩
   ·have hltz : ¬ (i : Int) < (L.length : Int) := by omega
    obtain rfl : i = L.length := by omega
    rw [List.take_length] at HMP
    have hlow := HR3.out.own_lt
    have hR5 := HR3.out.below HBW.out
    have HRES : Hid (RStepped R d.leave.1 d.leave.2 w (.slice oq ps.length cq) wr) := by
     rw [HLE.out]
     exact ⟨{ R with sn := f }, ps, hR5, HMS.out.lower hs3, HMP.out, ⟨rfl, rfl, rfl, fun k hk => .inl hk⟩, HT3.out.trans (Touch.of_below (L := fun k => k ∈ R.own) HBW.out (Nat.le_refl _)) fun _ _ h => h⟩
    clear hR5 hlow HMS HMP HBW HT3 HR3 HO3 HL HLE
    go_wp2_with fail
    go_ret2
    exact ⟨_, rfl, HRES.out⟩
end Go.Proofs.YtejihgfigclppaaGreat
namespace Go.Proofs.YtejihgfigclppaaGreat
open Go.RowKit Go.Lib
set_option linter.unusedVariables false
def SinceOk (d : Det) : Prop := ∀ n : Nat, n < 8 → ((∃ v, d.since (n : Int) = some v) ↔ ((n : Int) ≠ d.self ∧ ∃ w, d.tab n = some w ∧ w.st = 2))
theorem SinceOk.of_same {d e : Det} (h : SinceOk d) (h1 : e.since = d.since) (h2 : e.tab = d.tab) (h3 : e.self = d.self) : SinceOk e := by
 unfold SinceOk
 rw [h1, h2, h3]
 exact h
theorem SinceOk.hear {d : Det} (h : SinceOk d) (m : Mb) : SinceOk (d.hear m) := by
 unfold Det.hear
 by_cases hm : m.may ∧ newsT d.tab m = true
 ·rw [if_pos hm]
  obtain ⟨k, hk⟩ : ∃ k : Nat, m.node = (k : Int) := ⟨m.node.toNat, by have := hm.1.1; omega⟩
  have hkn : m.node.toNat = k := by rw [hk]; rfl
  by_cases e : m.node = d.self
  ·rw [if_pos e]
   intro n hn
   show (∃ v, d.since (n : Int) = some v) ↔ ((n : Int) ≠ d.self ∧ ∃ w, updT d.tab m.node.toNat ⟨m.st, m.inc⟩ n = some w ∧ w.st = 2)
   by_cases en : n = k
   ·subst en
    have hs : (n : Int) = d.self := hk.symm.trans e
    constructor
    ·intro hv; exact absurd hs ((h n hn).1 hv).1
    ·intro hv; exact absurd hs hv.1
   ·rw [hkn, updT_other _ _ en]; exact h n hn
  ·rw [if_neg e]
   intro n hn
   show (∃ v, updI d.since m.node (if m.st = 2 then some d.clock else none) (n : Int) = some v) ↔ ((n : Int) ≠ d.self ∧ ∃ w, updT d.tab m.node.toNat ⟨m.st, m.inc⟩ n = some w ∧ w.st = 2)
   unfold updI
   by_cases en : n = k
   ·subst en
    rw [hkn, hk, updT_same, if_pos rfl]
    constructor
    ·rintro ⟨v, hv⟩
     by_cases e2 : m.st = 2
     ·exact ⟨by rw [← hk]; exact e, _, rfl, e2⟩
     ·rw [if_neg e2] at hv; cases hv
    ·rintro ⟨_, w, hw, h2⟩
     cases hw
     have h2' : m.st = 2 := h2
     exact ⟨d.clock, by rw [if_pos h2']⟩
   ·rw [hkn, updT_other _ _ en, if_neg (by omega)]; exact h n hn
 ·rw [if_neg hm]; exact h
theorem SinceOk.hears {d : Det} (h : SinceOk d) (l : List Mb) : SinceOk (d.hears l) := by
 unfold Det.hears
 induction l generalizing d with
 | nil => exact h
 | cons m l ih => exact ih (h.hear m)
theorem SinceOk.say {d : Det} (h : SinceOk d) (n st : Int) : SinceOk (d.say n st) := by
 unfold Det.say
 split
 ·exact h.hear _
 ·exact h
theorem SinceOk.bury1 {d : Det} (h : SinceOk d) (n : Nat) : SinceOk (d.bury1 n) := by
 unfold Det.bury1
 split
 ·split
  ·exact h.say _ _
  ·exact h
 ·exact h
theorem SinceOk.buryTo {d : Det} (h : SinceOk d) : ∀ n, SinceOk (d.buryTo n)
 | 0 => h
 | n + 1 => (SinceOk.buryTo h n).bury1 n
theorem SinceOk.contradict {d : Det} (h : SinceOk d) : SinceOk d.contradict := by
 unfold Det.contradict
 split
 ·split
  ·exact h
  ·refine SinceOk.hear ?_ _
   exact h.of_same rfl rfl rfl
 ·exact h
theorem SinceOk.around {d : Det} (h : SinceOk d) : SinceOk d.around.1 := by
 unfold Det.around
 split
 ·exact h
 ·split
  ·exact h.of_same rfl rfl rfl
  ·exact h
theorem SinceOk.give {d : Det} (h : SinceOk d) : SinceOk d.give := by
 unfold Det.give
 split
 ·exact h
 ·split
  ·exact h
  ·split
   ·split
    ·exact (h.say _ _).of_same rfl rfl rfl
    ·exact h.of_same rfl rfl rfl
   ·exact h.of_same rfl rfl rfl
theorem SinceOk.begin {d : Det} (h : SinceOk d) : SinceOk d.begin.1 := by
 unfold Det.begin
 split
 ·exact h
 ·split
  ·exact h
  ·exact h.of_same rfl rfl rfl
theorem SinceOk.tick {d : Det} (h : SinceOk d) : SinceOk d.tick.1 := by
 unfold Det.tick
 split
 ·exact h
 ·have h1 : SinceOk { d with clock := d.clock + 1 } := h.of_same rfl rfl rfl
  exact (h1.buryTo 8).around.give.begin
theorem SinceOk.ack {d : Det} (h : SinceOk d) (m : Got) : SinceOk (d.ack m).1 := by
 unfold Det.ack
 split
 ·exact h.of_same rfl rfl rfl
 ·split
  ·exact h
  ·exact h.of_same rfl rfl rfl
theorem SinceOk.request {d : Det} (h : SinceOk d) (m : Got) : SinceOk (d.request m).1 := by
 unfold Det.request
 split
 ·exact h
 ·exact h.of_same rfl rfl rfl
theorem SinceOk.on {d : Det} (h : SinceOk d) (m : Got) : SinceOk (d.on m).1 := by
 have h1 := (h.hears m.ms).contradict
 unfold Det.on
 dsimp only
 split
 ·exact h1
 ·split
  ·exact h1.ack m
  ·split
   ·exact h1.request m
   ·exact h1
theorem SinceOk.leave {d : Det} (h : SinceOk d) : SinceOk d.leave.1 := SinceOk.hear (d := { d with left := true }) (h.of_same rfl rfl rfl) _
theorem SinceOk.new {self inc : Int} {c : DConf} {seed : Int} (hs : 0 ≤ self) : SinceOk (Det.new self inc c seed) := by
 intro n hn
 show (∃ v, (none : Option Int) = some v) ↔ ((n : Int) ≠ self ∧ ∃ w, updT (fun _ => none) self.toNat ⟨1, inc⟩ n = some w ∧ w.st = 2)
 constructor
 ·rintro ⟨v, hv⟩; cases hv
 ·rintro ⟨h1, w, hw, h2⟩
  rw [updT_other _ _ (by omega)] at hw
  cases hw
theorem bury1_none {d : Det} {n : Nat} (h : d.since (n : Int) = none) : d.bury1 n = d := by unfold Det.bury1; rw [h]
theorem bury1_wait {d : Det} {n : Nat} {v : Int} (h : d.since (n : Int) = some v) (h2 : ¬ d.c.gr ≤ d.clock - v) : d.bury1 n = d := by unfold Det.bury1; rw [h]; exact if_neg h2
theorem bury1_hear {d : Det} {n : Nat} {v : Int} {w : Wd} (h : d.since (n : Int) = some v) (h2 : d.c.gr ≤ d.clock - v) (hw : d.tab n = some w) : d.bury1 n = d.hear ⟨(n : Int), 3, w.inc⟩ := by
 unfold Det.bury1
 rw [h]
 show (if d.c.gr ≤ d.clock - v then d.say (n : Int) 3 else d) = _
 rw [if_pos h2]
 unfold Det.say
 rw [Int.toNat_natCast, hw]
end Go.Proofs.YtejihgfigclppaaGreat
