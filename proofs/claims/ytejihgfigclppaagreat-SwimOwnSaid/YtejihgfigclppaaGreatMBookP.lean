/-
  Plain facts on a book of events: what is seen and what holds behind each event; closed events come to the same in any order. No function of the program is entered.
  Messages, plainly: which may be; what detectors send as messages. No program in sight.
-/
import Derived.Test.YtejihgfigclppaaGreatMDotP
import Derived.Test.YtejihgfigclppaaGreatMSwimV
namespace Go.Proofs.YtejihgfigclppaaGreat
set_option linter.unusedVariables false

def polZero : Pol := ⟨0, 0, 0, 0, 0, 0, 0⟩
def PolRight (p : Pol) : Prop := (0 ≤ p.mn ∧ p.mn ≤ p.mx ∧ p.mx ≤ 1000) ∧ (1 ≤ p.goal ∧ p.goal ≤ 1073741824) ∧ (0 ≤ p.slack ∧ p.slack ≤ 100) ∧ (1 ≤ p.up ∧ p.up ≤ 1000) ∧ (1 ≤ p.down ∧ p.down ≤ 1000) ∧ (0 ≤ p.cool ∧ p.cool ≤ 1000)
instance (p : Pol) : Decidable (PolRight p) := by unfold PolRight; infer_instance
/-- what an event's kind asks -/
def KindRight (e : Ev) : Prop := (e.kind = 1 ∧ e.pol = polZero ∧ 0 ≤ e.value ∧ e.value ≤ 1099511627776 ∧ e.rem = []) ∨ (e.kind = 2 ∧ PolRight e.pol ∧ e.value = 0) ∨ (e.kind = 3 ∧ e.pol = polZero ∧ e.value = 0)
instance (e : Ev) : Decidable (KindRight e) := by unfold KindRight; infer_instance
def RemRight (own : Dot) (l : List Dot) : Prop := (∀ d ∈ l, May d ∧ d ≠ own) ∧ l.Pairwise Before
instance (own : Dot) (l : List Dot) : Decidable (RemRight own l) := by unfold RemRight; infer_instance
def RightEv (e : Ev) : Prop := May e.dot ∧ (1 ≤ e.time ∧ e.time ≤ 1099511627776) ∧ (0 ≤ e.work ∧ e.work ≤ 7) ∧ e.rem.length ≤ 96 ∧ RemRight e.dot e.rem ∧ KindRight e
instance (e : Ev) : Decidable (RightEv e) := by unfold RightEv; infer_instance

structure BookS where
  saw : Grid
  holds : List Ev
  time : Int
def BookS.new : BookS := ⟨Grid.none, [], 0⟩
def BookS.sees (S : BookS) (d : Dot) : Bool := S.saw d.node.toNat d.seq.toNat
def seeB (S : BookS) (d : Dot) : BookS := ⟨S.saw.put d.node.toNat d.seq.toNat, S.holds.filter fun e => decide (e.dot ≠ d), S.time⟩
def insEv (e : Ev) : List Ev → List Ev
  | [] => [e]
  | x :: l => if Before x.dot e.dot then x :: insEv e l else e :: x :: l
def maxI (a b : Int) : Int := if a < b then b else a
/-- an event that is taken in -/
def takeB (S : BookS) (e : Ev) : BookS := let T := e.rem.foldl seeB (seeB S e.dot); ⟨T.saw, insEv e T.holds, maxI T.time e.time⟩
def addB (S : BookS) (e : Ev) : Int × BookS := if RightEv e then if S.sees e.dot then (9, S) else (0, takeB S e) else (2, S)
def ByDot (l : List Ev) : Prop := l.Pairwise fun a b => Before a.dot b.dot

theorem mem_insEv {e x : Ev} : ∀ {l : List Ev}, x ∈ insEv e l ↔ x = e ∨ x ∈ l
  | [] => by simp [insEv]
  | y :: l => by
    unfold insEv
    split
    · rw [List.mem_cons, mem_insEv (l := l), List.mem_cons]
      constructor
      · rintro (h | h | h)
        · exact .inr (.inl h)
        · exact .inl h
        · exact .inr (.inr h)
      · rintro (h | h | h)
        · exact .inr (.inl h)
        · exact .inl h
        · exact .inr (.inr h)
    · rw [List.mem_cons]
theorem byDot_ins {e : Ev} : ∀ {l : List Ev}, ByDot l → (∀ x ∈ l, x.dot ≠ e.dot) → ByDot (insEv e l)
  | [], _, _ => List.pairwise_singleton _ _
  | y :: l, h, hne => by
    have hp := List.pairwise_cons.1 h
    unfold insEv
    split
    · rename_i hb
      refine List.pairwise_cons.2 ⟨fun z hz => ?_, byDot_ins hp.2 fun x hx => hne x (by simp [hx])⟩
      rcases mem_insEv.1 hz with rfl | hz
      · exact hb
      · exact hp.1 z hz
    · rename_i hb
      have hye : Before e.dot y.dot := by
        have h1 := hne y (by simp)
        unfold Before at hb ⊢
        have h2 : ¬ (y.dot.node = e.dot.node ∧ y.dot.seq = e.dot.seq) := fun ⟨h3, h4⟩ => h1 (by cases hy : y.dot; cases he : e.dot; rw [hy, he] at h3 h4; simp only at h3 h4; rw [h3, h4])
        omega
      refine List.pairwise_cons.2 ⟨fun z hz => ?_, h⟩
      rcases List.mem_cons.1 hz with rfl | hz
      · exact hye
      · exact hye.trans (hp.1 z hz)
theorem byDot_eq : ∀ {l l' : List Ev}, ByDot l → ByDot l' → (∀ x, x ∈ l ↔ x ∈ l') → l = l'
  | [], [], _, _, _ => rfl
  | [], b :: l', _, _, h => absurd ((h b).2 (by simp)) (by simp)
  | a :: l, [], _, _, h => absurd ((h a).1 (by simp)) (by simp)
  | a :: l, b :: l', h1, h2, h => by
    have p1 := List.pairwise_cons.1 h1
    have p2 := List.pairwise_cons.1 h2
    have hab : a = b := by
      have ha := (h a).1 (by simp)
      have hb := (h b).2 (by simp)
      rcases List.mem_cons.1 ha with e | e
      · exact e
      · rcases List.mem_cons.1 hb with e' | e'
        · exact e'.symm
        · exact absurd ((p1.1 b e').trans (p2.1 a e)) (Before.irrefl _)
    subst hab
    rw [byDot_eq p1.2 p2.2 fun x => ?_]
    constructor
    · intro hx
      rcases List.mem_cons.1 ((h x).1 (List.mem_cons_of_mem _ hx)) with e | e
      · exact absurd (p1.1 x hx) (by rw [e]; exact Before.irrefl _)
      · exact e
    · intro hx
      rcases List.mem_cons.1 ((h x).2 (List.mem_cons_of_mem _ hx)) with e | e
      · exact absurd (p2.1 x hx) (by rw [e]; exact Before.irrefl _)
      · exact e
theorem byDot_filter {l : List Ev} (h : ByDot l) (p : Ev → Bool) : ByDot (l.filter p) := List.Pairwise.sublist List.filter_sublist h
/-- two that hold at one dot are one -/
theorem byDot_one {l : List Ev} (h : ByDot l) {a b : Ev} (ha : a ∈ l) (hb : b ∈ l) (e : a.dot = b.dot) : a = b := by
  obtain ⟨i, hi, rfl⟩ := List.mem_iff_getElem.1 ha
  obtain ⟨j, hj, rfl⟩ := List.mem_iff_getElem.1 hb
  have hp := List.pairwise_iff_getElem.1 h
  rcases Nat.lt_trichotomy i j with h1 | h1 | h1
  · have := hp i j hi hj h1; rw [e] at this; exact absurd this (Before.irrefl _)
  · subst h1; rfl
  · have := hp j i hj hi h1; rw [e] at this; exact absurd this (Before.irrefl _)

theorem may_inj {a b : Dot} (ha : May a) (hb : May b) (h1 : a.node.toNat = b.node.toNat) (h2 : a.seq.toNat = b.seq.toNat) : a = b := by
  unfold May at *
  cases a; cases b
  simp only at *
  rw [Dot.mk.injEq]
  omega
theorem sees_put {g : Grid} {d x : Dot} (hd : May d) (hx : May x) : g.put d.node.toNat d.seq.toNat x.node.toNat x.seq.toNat = (g x.node.toNat x.seq.toNat || decide (x = d)) := by
  unfold Grid.put
  congr 1
  by_cases e : x = d
  · subst e; simp
  · rw [decide_eq_false e]
    rw [Bool.and_eq_false_iff, decide_eq_false_iff_not, decide_eq_false_iff_not]
    by_cases e1 : x.node.toNat = d.node.toNat
    · exact .inr fun e2 => e (may_inj hx hd e1 e2)
    · exact .inl e1

/-- what a right book is: what holds was seen, lies by its dots, and is right -/
structure BookS.Fine (S : BookS) : Prop where
  ok : S.saw.Ok
  by' : ByDot S.holds
  seen : ∀ e ∈ S.holds, S.sees e.dot = true
  rems : ∀ e ∈ S.holds, ∀ d ∈ e.rem, S.sees d = true
  right : ∀ e ∈ S.holds, RightEv e
  t0 : 0 ≤ S.time
  t1 : S.time ≤ 1099511627776
theorem fine_new : BookS.new.Fine := ⟨Grid.none_ok, List.Pairwise.nil, (fun _ h => nomatch h), (fun _ h => nomatch h), (fun _ h => nomatch h), Int.le_refl 0, by show (0 : Int) ≤ _; decide⟩
theorem seeAll (l : List Dot) : ∀ (S : BookS), (∀ d ∈ l, May d) → (∀ x, May x → ((l.foldl seeB S).sees x = true ↔ S.sees x = true ∨ x ∈ l)) ∧ (∀ e, e ∈ (l.foldl seeB S).holds ↔ e ∈ S.holds ∧ e.dot ∉ l) ∧ (l.foldl seeB S).time = S.time ∧ (S.saw.Ok → (l.foldl seeB S).saw.Ok) ∧ (ByDot S.holds → ByDot (l.foldl seeB S).holds) := by
  induction l with
  | nil => intro S _; exact ⟨fun x _ => by simp, fun e => by simp, rfl, id, id⟩
  | cons d l ih =>
    intro S hm
    have hd := hm d (by simp)
    obtain ⟨h1, h2, h3, h4, h5⟩ := ih (seeB S d) fun x hx => hm x (by simp [hx])
    rw [List.foldl_cons]
    refine ⟨fun x hx => ?_, fun e => ?_, h3, fun ho => h4 ?_, fun hb => h5 (byDot_filter hb _)⟩
    · rw [h1 x hx]
      have : (seeB S d).sees x = (S.sees x || decide (x = d)) := sees_put hd hx
      rw [this, Bool.or_eq_true, decide_eq_true_eq, List.mem_cons, or_assoc]
    · rw [h2 e]
      show e ∈ S.holds.filter _ ∧ _ ↔ _
      rw [List.mem_filter, decide_eq_true_eq, List.mem_cons]
      constructor
      · rintro ⟨⟨h6, h7⟩, h8⟩; exact ⟨h6, fun h => h.elim h7 h8⟩
      · rintro ⟨h6, h7⟩; exact ⟨⟨h6, fun h => h7 (.inl h)⟩, fun h => h7 (.inr h)⟩
    · unfold May at hd
      exact ho.put (by omega) (by omega) (by omega)
/-- an event that is taken in: what is seen, what holds -/
theorem takeB_is {S : BookS} {e : Ev} (h : S.Fine) (hr : RightEv e) (hn : S.sees e.dot = false) :
    (∀ x, May x → ((takeB S e).sees x = true ↔ S.sees x = true ∨ x = e.dot ∨ x ∈ e.rem)) ∧ (∀ x, x ∈ (takeB S e).holds ↔ x = e ∨ (x ∈ S.holds ∧ x.dot ∉ e.rem)) ∧ (takeB S e).Fine := by
  have hm : ∀ d ∈ e.dot :: e.rem, May d := fun d hd => by
    rcases List.mem_cons.1 hd with rfl | hd
    · exact hr.1
    · exact (hr.2.2.2.2.1.1 d hd).1
  obtain ⟨h1, h2, h3, h4, h5⟩ := seeAll (e.dot :: e.rem) S hm
  have hT : takeB S e = ⟨((e.dot :: e.rem).foldl seeB S).saw, insEv e ((e.dot :: e.rem).foldl seeB S).holds, maxI ((e.dot :: e.rem).foldl seeB S).time e.time⟩ := rfl
  generalize (e.dot :: e.rem).foldl seeB S = T at *
  have hsees : ∀ x, (takeB S e).sees x = T.sees x := fun x => by rw [hT]; rfl
  have hholds : (takeB S e).holds = insEv e T.holds := by rw [hT]
  have hs : ∀ x, May x → ((takeB S e).sees x = true ↔ S.sees x = true ∨ x = e.dot ∨ x ∈ e.rem) := fun x hx => by rw [hsees, h1 x hx, List.mem_cons]
  have hh : ∀ x, x ∈ (takeB S e).holds ↔ x = e ∨ (x ∈ S.holds ∧ x.dot ∉ e.rem) := fun x => by
    rw [hholds, mem_insEv, h2 x, List.mem_cons]
    constructor
    · rintro (h6 | ⟨h6, h7⟩)
      · exact .inl h6
      · exact .inr ⟨h6, fun h => h7 (.inr h)⟩
    · rintro (h6 | ⟨h6, h7⟩)
      · exact .inl h6
      · refine .inr ⟨h6, fun h8 => h8.elim (fun h9 => ?_) h7⟩
        have := h.seen x h6
        rw [h9, hn] at this
        cases this
  refine ⟨hs, hh, ?_, ?_, fun x hx => ?_, fun x hx d hd => ?_, fun x hx => ?_, ?_, ?_⟩
  · rw [hT]; exact h4 h.ok
  · rw [hholds]
    exact byDot_ins (h5 h.by') fun x hx => ((h2 x).1 hx).2 |> fun hne e2 => hne (by simp [e2])
  · rcases (hh x).1 hx with rfl | ⟨hx, _⟩
    · exact (hs _ hr.1).2 (.inr (.inl rfl))
    · exact (hs _ (h.right x hx).1).2 (.inl (h.seen x hx))
  · rcases (hh x).1 hx with rfl | ⟨hx, _⟩
    · exact (hs _ (hm d (by simp [hd]))).2 (.inr (.inr hd))
    · exact (hs _ ((h.right x hx).2.2.2.2.1.1 d hd).1).2 (.inl (h.rems x hx d hd))
  · rcases (hh x).1 hx with rfl | ⟨hx, _⟩
    · exact hr
    · exact h.right x hx
  · rw [hT]; show 0 ≤ maxI _ _; have := h.t0; have := hr.2.1; unfold maxI; rw [h3]; split <;> omega
  · rw [hT]; show maxI _ _ ≤ _; have := h.t1; have := hr.2.1; unfold maxI; rw [h3]; split <;> omega
theorem addB_fine {S : BookS} (h : S.Fine) (e : Ev) : (addB S e).2.Fine := by
  unfold addB
  split
  · split
    · exact h
    · rename_i h1 h2
      exact (takeB_is h h1 (by simpa using h2)).2.2
  · exact h
theorem addAll_fine : ∀ (l : List Ev) {S : BookS}, S.Fine → (l.foldl (fun S e => (addB S e).2) S).Fine
  | [], _, h => h
  | e :: l, _, h => addAll_fine l (addB_fine h e)

/-! ### closed events -/
def ClosedEv (l : List Ev) : Prop := (∀ e ∈ l, RightEv e) ∧ (∀ e ∈ l, ∀ f ∈ l, e.dot = f.dot → e = f) ∧ (∀ e ∈ l, ∀ f ∈ l, f.dot ∈ e.rem → ∀ d ∈ f.rem, d ∈ e.rem)
/-- S is what the events that L tells come to -/
structure Reads (S : BookS) (L : Ev → Prop) : Prop where
  fine : S.Fine
  saw : ∀ x, May x → (S.sees x = true ↔ ∃ e, L e ∧ (x = e.dot ∨ x ∈ e.rem))
  holds : ∀ e, e ∈ S.holds ↔ L e ∧ ∀ f, L f → e.dot ∉ f.rem
theorem reads_new : Reads BookS.new (fun _ => False) := ⟨fine_new, fun x _ => ⟨(fun h => nomatch h), fun ⟨_, h, _⟩ => h.elim⟩, fun e => ⟨(fun h => nomatch h), fun h => h.1.elim⟩⟩
theorem grid_ext {g h : Grid} (hg : g.Ok) (hh : h.Ok) (he : ∀ x : Dot, May x → (g x.node.toNat x.seq.toNat = true ↔ h x.node.toNat x.seq.toNat = true)) : g = h := by
  funext n q
  rw [Bool.eq_iff_iff]
  constructor
  · intro e
    have := hg n q e
    have hm : May ⟨n, q⟩ := by unfold May; simp only; omega
    exact (he ⟨n, q⟩ hm).1 e
  · intro e
    have := hh n q e
    have hm : May ⟨n, q⟩ := by unfold May; simp only; omega
    exact (he ⟨n, q⟩ hm).2 e
theorem Reads.same {S T : BookS} {L M : Ev → Prop} (h : Reads S L) (k : Reads T M) (he : ∀ e, L e ↔ M e) : S.saw = T.saw ∧ S.holds = T.holds := by
  obtain rfl : L = M := funext fun e => propext (he e)
  exact ⟨grid_ext h.fine.ok k.fine.ok fun x hx => (h.saw x hx).trans (k.saw x hx).symm, byDot_eq h.fine.by' k.fine.by' fun x => (h.holds x).trans (k.holds x).symm⟩
theorem Reads.add {l : List Ev} (hc : ClosedEv l) {S : BookS} {L : Ev → Prop} (h : Reads S L) (hL : ∀ e, L e → e ∈ l) {e : Ev} (he : e ∈ l) : Reads (addB S e).2 (fun x => L x ∨ x = e) := by
  have hr := hc.1 e he
  have hmr : ∀ {x}, x ∈ l → ∀ d ∈ x.rem, May d := fun {x} hx d hd => ((hc.1 x hx).2.2.2.2.1.1 d hd).1
  unfold addB
  rw [if_pos hr]
  cases hs : S.sees e.dot with
  | true =>
    rw [if_pos rfl]
    obtain ⟨f, hf, hfe⟩ := (h.saw _ hr.1).1 hs
    by_cases hin : L e
    · have : (fun x => L x ∨ x = e) = L := funext fun x => propext ⟨fun h => h.elim id fun e => e ▸ hin, .inl⟩
      rw [this]; exact h
    · have hfe2 : e.dot ∈ f.rem := hfe.resolve_left fun e2 => hin ((hc.2.1 e he f (hL f hf) e2) ▸ hf)
      refine ⟨h.fine, fun x hx => ?_, fun x => ?_⟩
      · rw [h.saw x hx]
        constructor
        · rintro ⟨y, hy, h2⟩; exact ⟨y, .inl hy, h2⟩
        · rintro ⟨y, hy | rfl, h2⟩
          · exact ⟨y, hy, h2⟩
          · rcases h2 with rfl | h2
            · exact ⟨f, hf, .inr hfe2⟩
            · exact ⟨f, hf, .inr (hc.2.2 f (hL f hf) y he hfe2 x h2)⟩
      · rw [h.holds x]
        constructor
        · rintro ⟨h1, h2⟩
          refine ⟨.inl h1, fun y hy => ?_⟩
          rcases hy with hy | rfl
          · exact h2 y hy
          · exact fun h3 => h2 f hf (hc.2.2 f (hL f hf) y he hfe2 _ h3)
        · rintro ⟨h1 | rfl, h2⟩
          · exact ⟨h1, fun y hy => h2 y (.inl hy)⟩
          · exact absurd hfe2 (h2 f (.inl hf))
  | false =>
    rw [if_neg (by simp)]
    obtain ⟨h1, h2, h3⟩ := takeB_is h.fine hr hs
    refine ⟨h3, fun x hx => ?_, fun x => ?_⟩
    · rw [h1 x hx, h.saw x hx]
      constructor
      · rintro (⟨y, hy, hxy⟩ | h4)
        · exact ⟨y, .inl hy, hxy⟩
        · exact ⟨e, .inr rfl, h4⟩
      · rintro ⟨y, hy | rfl, hxy⟩
        · exact .inl ⟨y, hy, hxy⟩
        · exact .inr hxy
    · rw [h2 x, h.holds x]
      constructor
      · rintro (rfl | ⟨⟨h4, h5⟩, h6⟩)
        · refine ⟨.inr rfl, fun y hy hm => ?_⟩
          rcases hy with hy | rfl
          · have := (h.saw _ hr.1).2 ⟨y, hy, .inr hm⟩
            rw [hs] at this
            cases this
          · exact (hr.2.2.2.2.1.1 _ hm).2 rfl
        · refine ⟨.inl h4, fun y hy => ?_⟩
          rcases hy with hy | rfl
          · exact h5 y hy
          · exact h6
      · rintro ⟨h4 | rfl, h5⟩
        · exact .inr ⟨⟨h4, fun y hy => h5 y (.inl hy)⟩, h5 e (.inr rfl)⟩
        · exact .inl rfl
theorem Reads.addAll {l : List Ev} (hc : ClosedEv l) : ∀ (m : List Ev) {S : BookS} {L : Ev → Prop}, Reads S L → (∀ e, L e → e ∈ l) → (∀ e ∈ m, e ∈ l) → Reads (m.foldl (fun S e => (addB S e).2) S) (fun x => L x ∨ x ∈ m)
  | [], S, L, h, _, _ => by
    have : (fun x => L x ∨ x ∈ ([] : List Ev)) = L := funext fun x => propext ⟨fun h => h.elim id (fun h => nomatch h), .inl⟩
    rw [this]; exact h
  | e :: m, S, L, h, hL, hm => by
    have h1 := Reads.addAll hc m (h.add hc hL (hm e (by simp))) (fun x hx => hx.elim (hL x) fun e2 => e2 ▸ hm e (by simp)) fun x hx => hm x (by simp [hx])
    have : (fun x => L x ∨ x ∈ e :: m) = fun x => (L x ∨ x = e) ∨ x ∈ m := funext fun x => propext (by rw [List.mem_cons, or_assoc])
    rw [this]; exact h1
/-- in any order, more than once: the same -/
theorem closed_order {l m : List Ev} (hc : ClosedEv l) (hm : ∀ e, e ∈ m ↔ e ∈ l) : (l.foldl (fun S e => (addB S e).2) BookS.new).saw = (m.foldl (fun S e => (addB S e).2) BookS.new).saw ∧ (l.foldl (fun S e => (addB S e).2) BookS.new).holds = (m.foldl (fun S e => (addB S e).2) BookS.new).holds :=
  (Reads.addAll hc l reads_new (fun _ h => h.elim) fun _ h => h).same (Reads.addAll hc m reads_new (fun _ h => h.elim) fun e h => (hm e).1 h) fun e => by simp [hm e]

/-! ### what is newer -/
def newerB (S : BookS) (g : Grid) (most : Int) : List Ev := (S.holds.filter fun e => !g e.dot.node.toNat e.dot.seq.toNat).take most.toNat
/-- an event that is removed by one of L is removed by one that holds, all that it removes too -/
theorem held_above {l : List Ev} (hc : ClosedEv l) {S : BookS} {L : Ev → Prop} (h : Reads S L) (hL : ∀ e, L e → e ∈ l) : ∀ (k : Nat) (e : Ev), L e → 97 ≤ k + e.rem.length → e ∉ S.holds → ∃ f, f ∈ S.holds ∧ e.dot ∈ f.rem ∧ ∀ d ∈ e.rem, d ∈ f.rem := by
  intro k
  induction k with
  | zero =>
    intro e he hk
    have := (hc.1 e (hL e he)).2.2.2.1
    omega
  | succ k ih =>
    intro e he hk hn
    have hx : ¬ ∀ f, L f → e.dot ∉ f.rem := fun h2 => hn ((h.holds e).2 ⟨he, h2⟩)
    obtain ⟨f, hf, hef⟩ : ∃ f, L f ∧ e.dot ∈ f.rem := by
      refine Classical.byContradiction fun h3 => hx fun f hf hm => h3 ⟨f, hf, hm⟩
    have hsub := hc.2.2 f (hL f hf) e (hL e he) hef
    -- f removes more
    have hlen : e.rem.length + 1 ≤ f.rem.length := by
      have hnd : (e.dot :: e.rem).Nodup := by
        refine List.nodup_cons.2 ⟨fun hm => ((hc.1 e (hL e he)).2.2.2.2.1.1 _ hm).2 rfl, ?_⟩
        exact (hc.1 e (hL e he)).2.2.2.2.1.2.imp fun hb e2 => by subst e2; exact Before.irrefl _ hb
      have := hnd.length_le_of_subset (l₂ := f.rem) fun d hd => by
        rcases List.mem_cons.1 hd with rfl | hd
        · exact hef
        · exact hsub d hd
      simpa using this
    by_cases hh : f ∈ S.holds
    · exact ⟨f, hh, hef, hsub⟩
    · obtain ⟨y, hy, hfy, hsy⟩ := ih f hf (by omega) hh
      exact ⟨y, hy, hsy _ hef, fun d hd => hsy d (hsub d hd)⟩
/-- one of two books of parts of closed events, handed what is newer of the other one, has seen all -/
theorem meets_half {l : List Ev} (hc : ClosedEv l) {A B : BookS} {L M : Ev → Prop} (ha : Reads A L) (hb : Reads B M) (hL : ∀ e, L e → e ∈ l) (hM : ∀ e, M e → e ∈ l) :
    Reads ((B.holds.filter fun e => !A.sees e.dot).foldl (fun S e => (addB S e).2) A) (fun x => L x ∨ x ∈ (B.holds.filter fun e => !A.sees e.dot)) ∧
      (∀ x, May x → B.sees x = true → ((B.holds.filter fun e => !A.sees e.dot).foldl (fun S e => (addB S e).2) A).sees x = true) := by
  have h1 := Reads.addAll hc (B.holds.filter fun e => !A.sees e.dot) ha hL fun e he => hM e ((hb.holds e).1 (List.mem_filter.1 he).1).1
  refine ⟨h1, fun x hx hs => ?_⟩
  obtain ⟨e, he, hxe⟩ := (hb.saw x hx).1 hs
  -- one that holds in B says of x
  obtain ⟨f, hf, hxf⟩ : ∃ f, f ∈ B.holds ∧ (x = f.dot ∨ x ∈ f.rem) := by
    by_cases hh : e ∈ B.holds
    · exact ⟨e, hh, hxe⟩
    · obtain ⟨f, h3, h4, h5⟩ := held_above hc hb hM 97 e he (by omega) hh
      exact ⟨f, h3, .inr (hxe.elim (fun h6 => h6 ▸ h4) (h5 x))⟩
  have hMf := ((hb.holds f).1 hf).1
  rw [h1.saw x hx]
  cases hsf : A.sees f.dot with
  | false => exact ⟨f, .inr (List.mem_filter.2 ⟨hf, by simp [hsf]⟩), hxf⟩
  | true =>
    obtain ⟨y, hy, hfy⟩ := (ha.saw _ (hc.1 f (hM f hMf)).1).1 hsf
    rcases hfy with hfy | hfy
    · obtain rfl := hc.2.1 f (hM f hMf) y (hL y hy) hfy
      exact ⟨f, .inl hy, hxf⟩
    · refine ⟨y, .inl hy, .inr (hxf.elim (fun h6 => h6 ▸ hfy) fun h6 => hc.2.2 y (hL y hy) f (hM f hMf) hfy x h6)⟩
/-- what Reads has seen all that L tells or that such remove: two books that have seen the same of closed events hold the same -/
theorem same_of_seen {l : List Ev} (hc : ClosedEv l) {A B : BookS} {L M : Ev → Prop} (ha : Reads A L) (hb : Reads B M) (hL : ∀ e, L e → e ∈ l) (hM : ∀ e, M e → e ∈ l) (hs : ∀ x, May x → (A.sees x = true ↔ B.sees x = true))
    (hx : ∀ e, L e → M e ∨ ∃ f, M f ∧ e.dot ∈ f.rem) (hy : ∀ e, M e → L e ∨ ∃ f, L f ∧ e.dot ∈ f.rem) : A.saw = B.saw ∧ A.holds = B.holds := by
  refine ⟨grid_ext ha.fine.ok hb.fine.ok hs, byDot_eq ha.fine.by' hb.fine.by' fun e => ?_⟩
  have key : ∀ {A B : BookS} {L M : Ev → Prop}, Reads A L → Reads B M → (∀ e, L e → e ∈ l) → (∀ e, M e → e ∈ l) → (∀ x, May x → (A.sees x = true ↔ B.sees x = true)) → (∀ e, L e → M e ∨ ∃ f, M f ∧ e.dot ∈ f.rem) → (∀ e, M e → L e ∨ ∃ f, L f ∧ e.dot ∈ f.rem) → e ∈ A.holds → e ∈ B.holds := by
    intro A B L M ha hb hL hM hs hx hy he
    obtain ⟨h1, h2⟩ := (ha.holds e).1 he
    refine (hb.holds e).2 ⟨?_, fun f hf hef => ?_⟩
    · rcases hx e h1 with h3 | ⟨f, hf, hef⟩
      · exact h3
      · rcases hy f hf with h4 | ⟨y, h4, h5⟩
        · exact absurd hef (h2 f h4)
        · exact absurd (hc.2.2 y (hL y h4) f (hM f hf) h5 _ hef) (h2 y h4)
    · rcases hy f hf with h4 | ⟨y, h4, h5⟩
      · exact h2 f h4 hef
      · exact h2 y h4 (hc.2.2 y (hL y h4) f (hM f hf) h5 _ hef)
  exact ⟨key ha hb hL hM hs hx hy, key hb ha hM hL (fun x hx => (hs x hx).symm) hy hx⟩
end Go.Proofs.YtejihgfigclppaaGreat
namespace Go.Proofs.YtejihgfigclppaaGreat
open Go.RowKit Go.Lib
set_option linter.unusedVariables false
/-- a message, with the headers of its slices -/
structure Msg where
  kind : Int
  frm : Int
  to_ : Int
  seq : Int
  node : Int
  u : Nat → Int
  more : List Dot
  evs : List PEv
  ms : List Mb
  hm : Hdr
  he : Hdr
  hs : Hdr
def Msg.cells (m : Msg) : List Value := [.int .i64 m.kind, .int .i64 m.frm, .int .i64 m.to_, .int .i64 m.seq, .int .i64 m.node, .int .i64 (m.u 0), .int .i64 (m.u 1), .int .i64 (m.u 2), .int .i64 (m.u 3), .int .i64 (m.u 4), .int .i64 (m.u 5), .int .i64 (m.u 6), .int .i64 (m.u 7), m.hm.val, m.he.val, m.hs.val]
theorem Msg.cells_len (m : Msg) : m.cells.length = 16 := rfl
def Msg.val (m : Msg) : Value := .agg m.cells.toArray
def Msg.got (m : Msg) : Got := ⟨m.kind, m.frm, m.to_, m.seq, m.node, m.ms⟩
def Msg.set (m : Msg) : DSet := ⟨m.u, m.more⟩
/-- the message's slices read so -/
structure MsgIn (w : World) (m : Msg) : Prop where
  more : SlAt Dot.cells w m.hm.val m.more
  evs : EvsAt w m.he.val m.evs
  ms : SlAt Mb.cells w m.hs.val m.ms
theorem MsgIn.below {w w' : World} {m : Msg} {B : Nat} (h : MsgIn w m) (hb : Below B w w') (hB : w.heap.size ≤ B) : MsgIn w' m :=
  ⟨h.more.below Dot.cells_len (by decide) hb hB, h.evs.below hb hB, h.ms.below Mb.cells_len (by decide) hb hB⟩
/-- of no great length -/
structure Msg.small (m : Msg) : Prop where
  more : m.more.length ≤ 1000
  ms : m.ms.length ≤ 1000
  evs : m.evs.length ≤ 3000
  rems : ∀ p ∈ m.evs, p.2.rem.length ≤ 3000
/-- members may be told so -/
def MsOk (l : List Mb) : Prop := (∀ m ∈ l, m.may) ∧ l.Pairwise fun a b => a.node < b.node
instance (l : List Mb) : Decidable (MsOk l) := by unfold MsOk; infer_instance
def noUpto (u : Nat → Int) : Prop := u 0 = 0 ∧ u 1 = 0 ∧ u 2 = 0 ∧ u 3 = 0 ∧ u 4 = 0 ∧ u 5 = 0 ∧ u 6 = 0 ∧ u 7 = 0
instance (u : Nat → Int) : Decidable (noUpto u) := by unfold noUpto; infer_instance
/-- parts that are asked for, by kind -/
def seqMost (kind : Int) : Int := if kind = 1 ∨ kind = 2 ∨ kind = 3 then 1099511627776 else if kind = 4 then 1 else 0
def Msg.seqOk (m : Msg) : Prop := 0 ≤ m.seq ∧ m.seq ≤ seqMost m.kind
def Msg.nodeOk (m : Msg) : Prop := ((m.kind = 2 ∨ m.kind = 3) ∧ 0 ≤ m.node ∧ m.node ≤ 7) ∨ m.node = 0
def Msg.seenOk (m : Msg) : Prop := if m.kind = 4 then m.set.Right else noUpto m.u ∧ m.more.length = 0
def Msg.evsOk (m : Msg) : Prop := if m.kind = 5 then (∀ p ∈ m.evs, RightEv p.2) ∧ m.evs.length ≤ 768 else m.evs.length = 0
structure Msg.right (m : Msg) : Prop where
  kind : 1 ≤ m.kind ∧ m.kind ≤ 5
  frm : 0 ≤ m.frm ∧ m.frm ≤ 7
  to_ : 0 ≤ m.to_ ∧ m.to_ ≤ 7
  ne : m.frm ≠ m.to_
  ms : MsOk m.ms
  seq : m.seqOk
  node : m.nodeOk
  seen : m.seenOk
  evs : m.evsOk
open Classical in
noncomputable def Msg.rightB (m : Msg) : Bool := decide m.right
theorem Msg.rightB_true {m : Msg} (h : m.right) : m.rightB = true := @decide_eq_true _ (Classical.propDecidable _) h
theorem Msg.rightB_false {m : Msg} (h : ¬ m.right) : m.rightB = false := @decide_eq_false _ (Classical.propDecidable _) h
/-- what a detector sends, as a message -/
def Sent.msg (s : Sent) (hs : Hdr) : Msg := ⟨s.kind, s.frm, s.to_, s.seq, s.node, fun _ => 0, [], [], s.ms, ⟨none, 0, 0⟩, ⟨none, 0, 0⟩, hs⟩
theorem noUpto_zero : noUpto fun _ => 0 := ⟨rfl, rfl, rfl, rfl, rfl, rfl, rfl, rfl⟩
theorem allT_ok {t : Tab} (h : TabOk t) : MsOk (allT t) := by
  refine ⟨fun m hm => ?_, allT_rise t⟩
  obtain ⟨k, h1, h2, h3⟩ := (mem_allT t m).1 hm
  obtain ⟨_, h5, h6, h7, h8⟩ := h k _ h3
  exact ⟨by omega, by omega, h5, h6, h7, h8⟩
/-- a message of a detector may be -/
theorem Sent.right {s : Sent} {hs : Hdr} (hk : s.kind = 1 ∨ s.kind = 2 ∨ s.kind = 3) (hf : 0 ≤ s.frm ∧ s.frm ≤ 7) (ht : 0 ≤ s.to_ ∧ s.to_ ≤ 7) (hne : s.frm ≠ s.to_) (hq : 0 ≤ s.seq ∧ s.seq ≤ 1099511627776) (hn : (s.kind ≠ 1 ∧ 0 ≤ s.node ∧ s.node ≤ 7) ∨ s.node = 0) (hm : MsOk s.ms) : (s.msg hs).right where
  kind := by show 1 ≤ s.kind ∧ s.kind ≤ 5; omega
  frm := hf
  to_ := ht
  ne := hne
  ms := hm
  seq := by
    show 0 ≤ s.seq ∧ s.seq ≤ seqMost s.kind
    unfold seqMost
    rw [if_pos hk]
    exact hq
  node := by
    show ((s.kind = 2 ∨ s.kind = 3) ∧ 0 ≤ s.node ∧ s.node ≤ 7) ∨ s.node = 0
    omega
  seen := by
    show if s.kind = 4 then _ else _
    rw [if_neg (by omega)]
    exact ⟨noUpto_zero, rfl⟩
  evs := by
    show if s.kind = 5 then _ else _
    rw [if_neg (by omega)]
    rfl
theorem Sent.small {s : Sent} {hs : Hdr} (h : s.ms.length ≤ 1000) : (s.msg hs).small := ⟨Nat.zero_le _, h, Nat.zero_le _, fun p hp => nomatch hp⟩
/-- members so far -/
def MsTo (l : List Mb) (i : Nat) : Prop := MsOk (l.take i)
theorem msTo_zero (l : List Mb) : MsTo l 0 := ⟨fun m hm => by simp at hm, by simp⟩
def lastNode (l : List Mb) (i : Nat) : Int := if i = 0 then -1 else (l.getD (i - 1) ⟨0, 0, 0⟩).node
theorem lastNode_succ (l : List Mb) (i : Nat) (h : i < l.length) : lastNode l (i + 1) = l[i].node := by
  unfold lastNode
  rw [if_neg (by omega), Nat.add_sub_cancel]
  simp [List.getD, List.getElem?_eq_getElem h]
theorem msTo_step {l : List Mb} {i : Nat} (h : MsTo l i) (hi : i < l.length) (h1 : l[i].may) (h2 : lastNode l i < l[i].node) : MsTo l (i + 1) := by
  unfold MsTo MsOk at *
  rw [List.take_succ_eq_append_getElem hi]
  refine ⟨fun m hm => ?_, ?_⟩
  · rw [List.mem_append, List.mem_singleton] at hm
    rcases hm with hm | rfl
    · exact h.1 m hm
    · exact h1
  · rw [List.pairwise_append]
    refine ⟨h.2, List.pairwise_singleton _ _, fun a ha b hb => ?_⟩
    rw [List.mem_singleton] at hb
    subst hb
    obtain ⟨k, hk, rfl⟩ := List.mem_iff_getElem.1 ha
    rw [List.length_take] at hk
    rw [List.getElem_take]
    unfold lastNode at h2
    have hi0 : i ≠ 0 := by omega
    rw [if_neg hi0] at h2
    have hg : l.getD (i - 1) ⟨0, 0, 0⟩ = l[i - 1] := by simp [List.getD, List.getElem?_eq_getElem (show i - 1 < l.length by omega)]
    rw [hg] at h2
    by_cases e : k = i - 1
    · subst e; exact h2
    · have h3 := List.pairwise_iff_getElem.1 h.2 k (i - 1) (by rw [List.length_take]; omega) (by rw [List.length_take]; omega) (by omega)
      rw [List.getElem_take, List.getElem_take] at h3
      omega
theorem msTo_done {l : List Mb} (h : MsTo l l.length) : MsOk l := by
  unfold MsTo at h
  rwa [List.take_length] at h
theorem msOk_last {l : List Mb} (h : MsOk l) {i : Nat} (hi : i < l.length) : lastNode l i < l[i].node := by
  unfold lastNode
  split
  · have := h.1 l[i] (List.getElem_mem _)
    have := this.1
    omega
  · have hg : l.getD (i - 1) ⟨0, 0, 0⟩ = l[i - 1] := by simp [List.getD, List.getElem?_eq_getElem (show i - 1 < l.length by omega)]
    rw [hg]
    exact List.pairwise_iff_getElem.1 h.2 (i - 1) i (by omega) hi (by omega)
end Go.Proofs.YtejihgfigclppaaGreat
