/-
  Plain facts on a book of events: two books that hand each other what is newer; what was seen holds or is removed; what is newer in pieces; what a new event stands for. No function of the program is entered.
-/
import Derived.Test.YtidiapgdgoeplaaBookP
namespace Go.Proofs.Ytidiapgdgoeplaa
set_option linter.unusedVariables false

def addsB (S : BookS) (l : List Ev) : BookS := l.foldl (fun S e => (addB S e).2) S
/-- those that hold in B and that A has not seen -/
def freshB (B A : BookS) : List Ev := B.holds.filter fun e => !A.sees e.dot
theorem meets {l : List Ev} (hc : ClosedEv l) {A B : BookS} {L M : Ev → Prop} (ha : Reads A L) (hb : Reads B M) (hL : ∀ e, L e → e ∈ l) (hM : ∀ e, M e → e ∈ l) :
    (addsB A (freshB B A)).saw = (addsB B (freshB A B)).saw ∧ (addsB A (freshB B A)).holds = (addsB B (freshB A B)).holds ∧ freshB (addsB A (freshB B A)) (addsB B (freshB A B)) = [] := by
  obtain ⟨h1, h2⟩ := meets_half hc ha hb hL hM
  obtain ⟨k1, k2⟩ := meets_half hc hb ha hM hL
  change Reads (addsB A (freshB B A)) (fun x => L x ∨ x ∈ freshB B A) at h1
  change Reads (addsB B (freshB A B)) (fun x => M x ∨ x ∈ freshB A B) at k1
  change ∀ x, May x → B.sees x = true → (addsB A (freshB B A)).sees x = true at h2
  change ∀ x, May x → A.sees x = true → (addsB B (freshB A B)).sees x = true at k2
  have up : ∀ {A B : BookS} {L M : Ev → Prop}, Reads A L → Reads B M → Reads (addsB A (freshB B A)) (fun x => L x ∨ x ∈ freshB B A) → ∀ x, May x → (addsB A (freshB B A)).sees x = true → A.sees x = true ∨ B.sees x = true := by
    intro A B L M ha hb h1 x hx hs
    obtain ⟨e, he, hxe⟩ := (h1.saw x hx).1 hs
    rcases he with he | he
    · exact .inl ((ha.saw x hx).2 ⟨e, he, hxe⟩)
    · exact .inr ((hb.saw x hx).2 ⟨e, ((hb.holds e).1 (List.mem_filter.1 he).1).1, hxe⟩)
  have lo : ∀ {A B : BookS} {L M : Ev → Prop}, Reads A L → Reads (addsB A (freshB B A)) (fun x => L x ∨ x ∈ freshB B A) → ∀ x, May x → A.sees x = true → (addsB A (freshB B A)).sees x = true := by
    intro A B L M ha h1 x hx hs
    obtain ⟨e, he, hxe⟩ := (ha.saw x hx).1 hs
    exact (h1.saw x hx).2 ⟨e, .inl he, hxe⟩
  have hL' : ∀ e, (L e ∨ e ∈ freshB B A) → e ∈ l := fun e he => he.elim (hL e) fun h => hM e ((hb.holds e).1 (List.mem_filter.1 h).1).1
  have hM' : ∀ e, (M e ∨ e ∈ freshB A B) → e ∈ l := fun e he => he.elim (hM e) fun h => hL e ((ha.holds e).1 (List.mem_filter.1 h).1).1
  have hs : ∀ x, May x → ((addsB A (freshB B A)).sees x = true ↔ (addsB B (freshB A B)).sees x = true) := fun x hx =>
    ⟨fun h => (up ha hb h1 x hx h).elim (k2 x hx) (lo (A := B) (B := A) (M := L) hb k1 x hx), fun h => (up hb ha k1 x hx h).elim (h2 x hx) (lo (A := A) (B := B) (M := M) ha h1 x hx)⟩
  have tell : ∀ {S T : BookS} {L M : Ev → Prop}, Reads S L → Reads T M → (∀ e, L e → e ∈ l) → (∀ e, M e → e ∈ l) → (∀ x, May x → (S.sees x = true ↔ T.sees x = true)) → ∀ e, L e → M e ∨ ∃ f, M f ∧ e.dot ∈ f.rem := by
    intro S T L M h k hL hM hs e he
    have hm := (hc.1 e (hL e he)).1
    obtain ⟨f, hf, hfe⟩ := (k.saw _ hm).1 ((hs _ hm).1 ((h.saw _ hm).2 ⟨e, he, .inl rfl⟩))
    rcases hfe with hfe | hfe
    · exact .inl ((hc.2.1 e (hL e he) f (hM f hf) hfe) ▸ hf)
    · exact .inr ⟨f, hf, hfe⟩
  obtain ⟨h3, h4⟩ := same_of_seen hc h1 k1 hL' hM' hs (tell h1 k1 hL' hM' hs) (tell k1 h1 hM' hL' fun x hx => (hs x hx).symm)
  refine ⟨h3, h4, ?_⟩
  unfold freshB
  rw [List.filter_eq_nil_iff]
  intro e he
  have := h1.fine.seen e he
  have hse : (addsB B (freshB A B)).sees e.dot = (addsB A (freshB B A)).sees e.dot := by unfold BookS.sees; rw [h3]
  show ¬ (!(addsB B (freshB A B)).sees e.dot) = true
  rw [hse, this]
  simp

/-- each that was seen holds, or is removed; none of both -/
structure Grows (S : BookS) (R : Dot → Prop) : Prop where
  fine : S.Fine
  saw : ∀ x, May x → (S.sees x = true ↔ (∃ e, e ∈ S.holds ∧ e.dot = x) ∨ R x)
  none : ∀ e, e ∈ S.holds → ¬ R e.dot
theorem grows_new : Grows BookS.new (fun _ => False) := ⟨fine_new, fun x _ => ⟨(fun h => nomatch h), fun h => h.elim (fun ⟨_, h, _⟩ => nomatch h) False.elim⟩, fun _ h => nomatch h⟩
theorem Grows.take {S : BookS} {R : Dot → Prop} (h : Grows S R) {e : Ev} (hr : RightEv e) (hn : S.sees e.dot = false) : Grows (takeB S e) (fun x => R x ∨ x ∈ e.rem) := by
  obtain ⟨h1, h2, h3⟩ := takeB_is h.fine hr hn
  refine ⟨h3, fun x hx => ?_, fun x hx => ?_⟩
  · rw [h1 x hx, h.saw x hx]
    constructor
    · rintro ((⟨y, hy, rfl⟩ | h4) | rfl | h4)
      · by_cases hm : y.dot ∈ e.rem
        · exact .inr (.inr hm)
        · exact .inl ⟨y, (h2 y).2 (.inr ⟨hy, hm⟩), rfl⟩
      · exact .inr (.inl h4)
      · exact .inl ⟨e, (h2 e).2 (.inl rfl), rfl⟩
      · exact .inr (.inr h4)
    · rintro (⟨y, hy, rfl⟩ | h4 | h4)
      · rcases (h2 y).1 hy with rfl | ⟨h5, _⟩
        · exact .inr (.inl rfl)
        · exact .inl (.inl ⟨y, h5, rfl⟩)
      · exact .inl (.inr h4)
      · exact .inr (.inr h4)
  · rcases (h2 x).1 hx with rfl | ⟨h4, h5⟩
    · rintro (h6 | h6)
      · have := (h.saw _ hr.1).2 (.inr h6)
        rw [hn] at this
        cases this
      · exact (hr.2.2.2.2.1.1 _ h6).2 rfl
    · rintro (h6 | h6)
      · exact h.none x h4 h6
      · exact h5 h6
theorem takeB_keeps {S : BookS} {e : Ev} (h : S.Fine) (hr : RightEv e) (hn : S.sees e.dot = false) (n q : Nat) (hs : S.saw n q = true) : (takeB S e).saw n q = true := by
  have := h.ok n q hs
  have hm : May ⟨n, q⟩ := by unfold May; simp only; omega
  exact ((takeB_is h hr hn).1 ⟨n, q⟩ hm).2 (.inl hs)
theorem addB_keeps {S : BookS} {e : Ev} (h : S.Fine) (n q : Nat) (hs : S.saw n q = true) : (addB S e).2.saw n q = true := by
  unfold addB
  split
  · split
    · exact hs
    · rename_i h1 h2
      exact takeB_keeps h h1 (by simpa using h2) n q hs
  · exact hs

/-! ### what is newer, in pieces -/
def putAll (g : Grid) (l : List Ev) : Grid := l.foldl (fun g e => g.put e.dot.node.toNat e.dot.seq.toNat) g
def lacks (g : Grid) (e : Ev) : Bool := !g e.dot.node.toNat e.dot.seq.toNat
theorem putAll_at : ∀ (l : List Ev) (g : Grid), (∀ e ∈ l, May e.dot) → ∀ x : Dot, May x → (putAll g l x.node.toNat x.seq.toNat = true ↔ g x.node.toNat x.seq.toNat = true ∨ ∃ e ∈ l, e.dot = x)
  | [], g, _, x, _ => by simp [putAll]
  | e :: l, g, h, x, hx => by
    have ih := putAll_at l (g.put e.dot.node.toNat e.dot.seq.toNat) (fun y hy => h y (by simp [hy])) x hx
    show putAll (g.put _ _) l _ _ = true ↔ _
    rw [ih, sees_put (h e (by simp)) hx, Bool.or_eq_true, decide_eq_true_eq]
    simp only [List.mem_cons, exists_eq_or_imp, or_assoc]
    constructor
    · rintro (h1 | rfl | h1)
      · exact .inl h1
      · exact .inr (.inl rfl)
      · exact .inr (.inr h1)
    · rintro (h1 | h1 | h1)
      · exact .inl h1
      · exact .inr (.inl h1.symm)
      · exact .inr (.inr h1)
theorem putAll_ok {g : Grid} (hg : g.Ok) : ∀ (l : List Ev), (∀ e ∈ l, May e.dot) → (putAll g l).Ok := by
  intro l
  induction l generalizing g with
  | nil => intro _; exact hg
  | cons e l ih =>
    intro h
    have hm := h e (by simp)
    unfold May at hm
    exact ih (hg.put (by omega) (by omega) (by omega)) fun y hy => h y (by simp [hy])
theorem filter_drop_of_byDot : ∀ {F : List Ev}, ByDot F → ∀ m, F.filter (fun e => decide (∀ x ∈ F.take m, x.dot ≠ e.dot)) = F.drop m
  | [], _, m => by simp
  | a :: F, h, 0 => by simp
  | a :: F, h, m + 1 => by
    have hp := List.pairwise_cons.1 h
    rw [List.take_succ_cons, List.drop_succ_cons, List.filter_cons]
    have h1 : decide (∀ x ∈ a :: F.take m, x.dot ≠ a.dot) = false := by
      rw [decide_eq_false_iff_not]
      exact fun h2 => h2 a (by simp) rfl
    rw [h1, ← filter_drop_of_byDot hp.2 m]
    simp only [Bool.false_eq_true, if_false]
    refine List.filter_congr fun e he => ?_
    rw [Bool.eq_iff_iff, decide_eq_true_eq, decide_eq_true_eq]
    refine ⟨fun h2 x hx => h2 x (by simp [hx]), fun h2 x hx => ?_⟩
    rcases List.mem_cons.1 hx with rfl | hx
    · exact fun e2 => Before.irrefl _ (e2 ▸ hp.1 e he)
    · exact h2 x hx
/-- one piece more -/
theorem piece_step {H : List Ev} (hb : ByDot H) (hm : ∀ e ∈ H, May e.dot) (g : Grid) (m : Nat) : H.filter (lacks (putAll g ((H.filter (lacks g)).take m))) = (H.filter (lacks g)).drop m := by
  rw [← filter_drop_of_byDot (byDot_filter hb (lacks g)) m, List.filter_filter]
  refine List.filter_congr fun e he => ?_
  have h1 := putAll_at ((H.filter (lacks g)).take m) g (fun y hy => hm y (List.mem_filter.1 (List.mem_of_mem_take hy)).1) e.dot (hm e he)
  unfold lacks at *
  rw [Bool.eq_iff_iff, Bool.not_eq_true', Bool.and_eq_true, decide_eq_true_eq, Bool.not_eq_true', ← Bool.not_eq_true, ← Bool.not_eq_true, h1, not_or]
  constructor
  · rintro ⟨h2, h3⟩; exact ⟨fun x hx e2 => h3 ⟨x, hx, e2⟩, h2⟩
  · rintro ⟨h2, h3⟩; exact ⟨h3, fun ⟨x, hx, e2⟩ => h2 x hx e2⟩

/-! ### what a new event stands for -/
def standsL (S : BookS) (work : Int) : List Dot := (S.holds.filter fun e => decide (e.kind ≠ 1 ∧ e.work = work)).flatMap fun e => e.dot :: e.rem
def dotsGrid (l : List Dot) : Grid := fun n q => decide ((⟨n, q⟩ : Dot) ∈ l ∧ May ⟨n, q⟩)
theorem dotsGrid_ok (l : List Dot) : (dotsGrid l).Ok := fun n q h => by
  unfold dotsGrid at h
  rw [decide_eq_true_eq] at h
  have := h.2
  unfold May at this
  simp only at this
  omega
theorem mem_dotsGrid {l : List Dot} {d : Dot} : d ∈ dotsOf (dotsGrid l) ↔ May d ∧ d ∈ l := by
  rw [mem_dotsOf (dotsGrid_ok l)]
  constructor
  · rintro ⟨h1, h2⟩
    unfold dotsGrid at h2
    rw [decide_eq_true_eq] at h2
    refine ⟨h1, ?_⟩
    unfold May at h1
    have : (⟨(d.node.toNat : Int), (d.seq.toNat : Int)⟩ : Dot) = d := by cases d; simp only [Dot.mk.injEq] at *; omega
    rw [this] at h2
    exact h2.1
  · rintro ⟨h1, h2⟩
    refine ⟨h1, ?_⟩
    unfold dotsGrid
    rw [decide_eq_true_eq]
    have : (⟨(d.node.toNat : Int), (d.seq.toNat : Int)⟩ : Dot) = d := by unfold May at h1; cases d; simp only [Dot.mk.injEq] at *; omega
    rw [this]
    exact ⟨h2, h1⟩
def standsB (S : BookS) (work : Int) : List Dot × Int := let l := dotsOf (dotsGrid (standsL S work)); if 96 < l.length then ([], 7) else (l, 0)
theorem mem_standsL {S : BookS} {work : Int} {d : Dot} : d ∈ standsL S work ↔ ∃ e ∈ S.holds, (e.kind ≠ 1 ∧ e.work = work) ∧ (d = e.dot ∨ d ∈ e.rem) := by
  unfold standsL
  simp only [List.mem_flatMap, List.mem_filter, decide_eq_true_eq, List.mem_cons]
  constructor
  · rintro ⟨e, ⟨h1, h2⟩, h3⟩; exact ⟨e, h1, h2, h3⟩
  · rintro ⟨e, h1, h2, h3⟩; exact ⟨e, ⟨h1, h2⟩, h3⟩
/-- the event that stands for all that stood -/
def lastEv (work : Int) (l : List Dot) : Ev := ⟨⟨7, 96⟩, 1099511627776, 3, work, 0, polZero, l⟩
theorem may796 : May ⟨7, 96⟩ := ⟨by show (0 : Int) ≤ 7; omega, by show (7 : Int) < 8; omega, by show (1 : Int) ≤ 96; omega, by show (96 : Int) ≤ 96; omega⟩
theorem stands_right {S : BookS} (h : S.Fine) (work : Int) (h0 : 0 ≤ work) (h8 : work < 8) (hn : S.sees ⟨7, 96⟩ = false) (r : List Dot) (hm : ∀ d, d ∈ r ↔ May d ∧ d ∈ standsL S work) (hs : r.Pairwise Before) (hlen : r.length ≤ 96) : RightEv (lastEv work r) := by
  refine ⟨may796, ⟨by show (1 : Int) ≤ 1099511627776; omega, by show (1099511627776 : Int) ≤ 1099511627776; omega⟩, ⟨h0, by show work ≤ 7; omega⟩, hlen, ⟨fun d hd => ?_, hs⟩, .inr (.inr ⟨rfl, rfl, rfl⟩)⟩
  obtain ⟨h1, h2⟩ := (hm d).1 hd
  refine ⟨h1, fun e2 => ?_⟩
  obtain ⟨e, he, _, h3⟩ := mem_standsL.1 h2
  change d = ⟨7, 96⟩ at e2
  rw [e2] at h3
  rcases h3 with h3 | h3
  · have := h.seen e he
    rw [← h3, hn] at this
    cases this
  · have := h.rems e he _ h3
    rw [hn] at this
    cases this
theorem stands_alone {S : BookS} (h : S.Fine) (work : Int) (h0 : 0 ≤ work) (h8 : work < 8) (hn : S.sees ⟨7, 96⟩ = false) (r : List Dot) (hm : ∀ d, d ∈ r ↔ May d ∧ d ∈ standsL S work) (hs : r.Pairwise Before) (hlen : r.length ≤ 96) (T : BookS) (hT : T = takeB S (lastEv work r)) :
    (T.holds.filter fun e => decide (e.kind ≠ 1 ∧ e.work = work)).length = 1 ∧ (T.holds.filter fun e => decide (e.kind = 1)).length ≤ (S.holds.filter fun e => decide (e.kind = 1)).length ∧ T.time = 1099511627776 ∧ T.Fine := by
  have hr := stands_right h work h0 h8 hn r hm hs hlen
  obtain ⟨h1, h2, h3⟩ := takeB_is h hr hn
  rw [← hT] at h1 h2 h3
  refine ⟨?_, ?_, ?_, h3⟩
  · have : (T.holds.filter fun e => decide (e.kind ≠ 1 ∧ e.work = work)) = [lastEv work r] := by
      refine byDot_eq (byDot_filter h3.by' _) (List.pairwise_singleton _ _) fun x => ?_
      rw [List.mem_filter, h2 x, List.mem_singleton, decide_eq_true_eq]
      constructor
      · rintro ⟨h4 | ⟨h4, h5⟩, h6⟩
        · exact h4
        · exact absurd ((hm x.dot).2 ⟨(h.right x h4).1, mem_standsL.2 ⟨x, h4, h6, .inl rfl⟩⟩) h5
      · rintro rfl
        exact ⟨.inl rfl, by show (3 : Int) ≠ 1; omega, rfl⟩
    rw [this]; rfl
  · have hsub : ∀ x, x ∈ (T.holds.filter fun e => decide (e.kind = 1)) → x ∈ (S.holds.filter fun e => decide (e.kind = 1)) := fun x hx => by
      rw [List.mem_filter, h2 x, decide_eq_true_eq] at hx
      obtain ⟨h4 | ⟨h4, _⟩, h5⟩ := hx
      · rw [h4] at h5; exact absurd h5 (by show ¬ (3 : Int) = 1; omega)
      · exact List.mem_filter.2 ⟨h4, by simpa using h5⟩
    have hnd : (T.holds.filter fun e => decide (e.kind = 1)).Nodup := (byDot_filter h3.by' _).imp fun {a b} hb e2 => by subst e2; exact Before.irrefl _ hb
    exact hnd.length_le_of_subset hsub
  · have hm : T.time = maxI S.time 1099511627776 := by
      rw [hT]
      have h5 := (seeAll ((⟨7, 96⟩ : Dot) :: r) S (fun d hd => by
        rcases List.mem_cons.1 hd with rfl | hd
        · exact may796
        · exact ((hm d).1 hd).1)).2.2.1
      show maxI (((⟨7, 96⟩ : Dot) :: r).foldl seeB S).time _ = _
      rw [h5]
      rfl
    have := h.t1
    rw [hm]
    unfold maxI
    split <;> omega
end Go.Proofs.Ytidiapgdgoeplaa
