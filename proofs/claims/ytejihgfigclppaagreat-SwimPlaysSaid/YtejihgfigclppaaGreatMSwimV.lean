/-
  What holds of a detector behind each of its steps. No program in sight.
  The detector asks others to ask its target.
-/
import Derived.Test.YtejihgfigclppaaGreatMSwimQ
import Derived.Test.YtejihgfigclppaaGreatMSwimR
namespace Go.Proofs.YtejihgfigclppaaGreat
open Go.RowKit Go.Lib
set_option linter.unusedVariables false
theorem mem_nextL {s : Int} {ws nodes : List Int} {x : Int} (hl : nodes.length ≤ 900000) (h : x ∈ (nextL s ws nodes).2) : x ∈ nodes := by
 unfold nextL at h
 split at h
 ·have h1 := (shufL_perm s (onceL nodes) (by have := onceL_len nodes; omega)).mem_iff.1 h
  exact ((onceL_is nodes).2 x).1 h1
 ·have h2 := (List.mem_filter.1 h).2
  simpa [goneL] using h2
theorem nextL_len (s : Int) (ws nodes : List Int) : (nextL s ws nodes).2.length ≤ max ws.length nodes.length := by
 unfold nextL
 split
 ·rw [shufL_len]
  have := onceL_len nodes
  omega
 ·have := List.length_filter_le (fun x => !goneL nodes x) ws
  dsimp only
  omega
theorem others_node {self : Int} {t : Tab} {x : Int} (h : x ∈ othersT self t) : 0 ≤ x ∧ x ≤ 7 ∧ x ≠ self := by
 obtain ⟨h1, k, h2, h3, _⟩ := (mem_othersT self t x).1 h
 exact ⟨by omega, by omega, h1⟩
theorem next_head {s : Int} {ws nodes : List Int} (hl : nodes.length ≤ 900000) (hn : nodes ≠ []) : (nextL s ws nodes).2.headD 0 ∈ nodes := by
 refine mem_nextL hl (s := s) (ws := ws) ?_
 have := nextL_ne s ws nodes hn
 cases h : (nextL s ws nodes).2 with
 | nil => exact absurd h this
 | cons a l => simp
theorem DetOk.next {d : Det} (h : DetOk d) (s : Int) (ws : List Int) (hw : ws.length ≤ 8) : DetOk { d with s := s, ws := ws } := ⟨h.self, h.tab, h.own, h.clock, h.num, h.since, h.began, h.er, hw, h.c, h.pr⟩
theorem DetOk.noPr {d : Det} (h : DetOk d) : DetOk { d with pr := none } := ⟨h.self, h.tab, h.own, h.clock, h.num, h.since, h.began, h.er, h.ws, h.c, fun p e => nomatch e⟩
theorem DetOk.ticks {d : Det} (h : DetOk d) (hc : d.clock < 1000000) : DetOk { d with clock := d.clock + 1 } :=
 ⟨h.self, h.tab, h.own, ⟨by have := h.clock.1; show 0 ≤ d.clock + 1; omega, by show d.clock + 1 ≤ 1000000; omega⟩, h.num, (fun n v e => by have := h.since n v e; exact ⟨this.1, by have h2 := this.2; show v ≤ d.clock + 1; omega⟩), ⟨h.began.1, by have h2 := h.began.2; show d.began ≤ d.clock + 1; omega⟩, h.er, h.ws, h.c, h.pr⟩
theorem DetOk.around {d : Det} (h : DetOk d) : DetOk d.around.1 := by
 unfold Det.around
 split
 ·exact h
 ·split
  ·exact h.next _ _ h.ws
  ·exact h
theorem DetOk.give {d : Det} (h : DetOk d) : DetOk d.give := by
 unfold Det.give
 split
 ·exact h
 ·split
  ·exact h
  ·split
   ·split
    ·exact (h.say _ _).noPr
    ·exact h.noPr
   ·exact h.noPr
theorem DetOk.begin {d : Det} (h : DetOk d) (hn : d.num < 1000000) : DetOk d.begin.1 := by
 unfold Det.begin
 split
 ·exact h
 ·split
  ·exact h
  ·rename_i hne
   have hm := others_node (next_head (s := d.s) (ws := d.ws) (by have := othersT_len d.self d.tab; omega) hne)
   have hl := nextL_len d.s d.ws (othersT d.self d.tab)
   have h1 := h.ws
   have h2 := othersT_len d.self d.tab
   have h3 := h.num
   refine ⟨h.self, h.tab, h.own, h.clock, ⟨?_, ?_⟩, h.since, ⟨h.clock.1, Int.le_refl _⟩, h.er, ?_, h.c, ?_⟩
   ·show 0 ≤ d.num + 1; omega
   ·show d.num + 1 ≤ 1000000; omega
   ·show (nextL d.s d.ws (othersT d.self d.tab)).2.tail.length ≤ 8
    rw [List.length_tail]
    omega
   ·intro p hp
    cases hp
    exact ⟨by omega, Int.le_refl _, hm⟩
structure SameNum (d e : Det) : Prop where
 self : e.self = d.self
 c : e.c = d.c
 clock : e.clock = d.clock
 num : e.num = d.num
 left : e.left = d.left
theorem SameNum.refl (d : Det) : SameNum d d := ⟨rfl, rfl, rfl, rfl, rfl⟩
theorem SameNum.trans {a b c : Det} (h : SameNum a b) (k : SameNum b c) : SameNum a c := ⟨k.self.trans h.self, k.c.trans h.c, k.clock.trans h.clock, k.num.trans h.num, k.left.trans h.left⟩
theorem same_hear (d : Det) (m : Mb) : SameNum d (d.hear m) := ⟨hear_self d m, hear_c d m, hear_clock d m, hear_num d m, hear_left d m⟩
theorem same_say (d : Det) (n st : Int) : SameNum d (d.say n st) := by
 unfold Det.say
 split
 ·exact same_hear _ _
 ·exact .refl _
theorem same_bury1 (d : Det) (n : Nat) : SameNum d (d.bury1 n) := by
 unfold Det.bury1
 split
 ·split
  ·exact same_say _ _ _
  ·exact .refl _
 ·exact .refl _
theorem same_buryTo (d : Det) : ∀ n, SameNum d (d.buryTo n)
 | 0 => .refl _
 | n + 1 => (same_buryTo d n).trans (same_bury1 _ n)
theorem same_bury (d : Det) : SameNum d d.bury := same_buryTo d 8
theorem same_around (d : Det) : SameNum d d.around.1 := by
 unfold Det.around
 split
 ·exact .refl _
 ·split
  ·exact ⟨rfl, rfl, rfl, rfl, rfl⟩
  ·exact .refl _
theorem same_give (d : Det) : SameNum d d.give := by
 unfold Det.give
 split
 ·exact .refl _
 ·split
  ·exact .refl _
  ·split
   ·split
    ·obtain ⟨a, b, c, e, f⟩ := same_say d _ 2
     exact ⟨a, b, c, e, f⟩
    ·exact ⟨rfl, rfl, rfl, rfl, rfl⟩
   ·exact ⟨rfl, rfl, rfl, rfl, rfl⟩
theorem same_hears (d : Det) : ∀ l, SameNum d (d.hears l) := by
 intro l
 unfold Det.hears
 induction l generalizing d with
 | nil => exact .refl _
 | cons m l ih => exact (same_hear d m).trans (ih _)
theorem same_contradict (d : Det) : SameNum d d.contradict := by
 unfold Det.contradict
 split
 ·split
  ·exact .refl _
  ·obtain ⟨a, b, c, e, f⟩ := same_hear { d with inc := _ } ⟨d.self, 1, _⟩
   exact ⟨a, b, c, e, f⟩
 ·exact .refl _
theorem begin_same (d : Det) : d.begin.1.self = d.self ∧ d.begin.1.c = d.c ∧ d.begin.1.clock = d.clock ∧ d.num ≤ d.begin.1.num ∧ d.begin.1.num ≤ d.num + 1 ∧ d.begin.1.left = d.left := by
 unfold Det.begin
 split
 ·exact ⟨rfl, rfl, rfl, Int.le_refl _, by show d.num ≤ d.num + 1; omega, rfl⟩
 ·split
  ·exact ⟨rfl, rfl, rfl, Int.le_refl _, by show d.num ≤ d.num + 1; omega, rfl⟩
  ·exact ⟨rfl, rfl, rfl, by show d.num ≤ d.num + 1; omega, Int.le_refl _, rfl⟩
theorem DetOk.tick {d : Det} (h : DetOk d) (hc : d.clock < 1000000) (hn : d.num < 1000000) : DetOk d.tick.1 := by
 unfold Det.tick
 split
 ·exact h
 ·have h1 := (h.ticks hc).bury
  have s1 := same_bury { d with clock := d.clock + 1 }
  have s2 := same_around (Det.bury { d with clock := d.clock + 1 })
  have s3 := same_give (Det.bury { d with clock := d.clock + 1 }).around.1
  refine h1.around.give.begin ?_
  rw [s3.num, s2.num, s1.num]
  exact hn
theorem tick_same (d : Det) : d.tick.1.self = d.self ∧ d.tick.1.c = d.c ∧ d.clock ≤ d.tick.1.clock ∧ d.tick.1.clock ≤ d.clock + 1 ∧ d.num ≤ d.tick.1.num ∧ d.tick.1.num ≤ d.num + 1 ∧ d.tick.1.left = d.left := by
 unfold Det.tick
 split
 ·exact ⟨rfl, rfl, Int.le_refl _, by show d.clock ≤ d.clock + 1; omega, Int.le_refl _, by show d.num ≤ d.num + 1; omega, rfl⟩
 ·have s1 := (same_bury { d with clock := d.clock + 1 }).trans (same_around _)
  have s3 := s1.trans (same_give _)
  obtain ⟨a, b, c, e, f, g⟩ := begin_same (Det.bury { d with clock := d.clock + 1 }).around.1.give
  refine ⟨a.trans s3.self, b.trans s3.c, ?_, ?_, ?_, ?_, g.trans s3.left⟩
  ·show d.clock ≤ ((Det.bury { d with clock := d.clock + 1 }).around.1.give.begin).1.clock
   rw [c, s3.clock]; show d.clock ≤ d.clock + 1; omega
  ·show ((Det.bury { d with clock := d.clock + 1 }).around.1.give.begin).1.clock ≤ d.clock + 1
   rw [c, s3.clock]; exact Int.le_refl _
  ·have := s3.num
   show d.num ≤ ((Det.bury { d with clock := d.clock + 1 }).around.1.give.begin).1.num
   dsimp only at this
   omega
  ·have := s3.num
   show ((Det.bury { d with clock := d.clock + 1 }).around.1.give.begin).1.num ≤ d.num + 1
   dsimp only at this
   omega
theorem DetOk.ack {d : Det} (h : DetOk d) (m : Got) : DetOk (d.ack m).1 := by
 unfold Det.ack
 split
 ·exact h.noPr
 ·split
  ·exact h
  ·exact ⟨h.self, h.tab, h.own, h.clock, h.num, h.since, h.began, Nat.le_trans (List.length_eraseIdx_le _ _) h.er, h.ws, h.c, h.pr⟩
theorem DetOk.request {d : Det} (h : DetOk d) (m : Got) (hn : d.num < 1000000) : DetOk (d.request m).1 := by
 unfold Det.request
 split
 ·exact h
 ·have h1 := h.num
  have h2 := h.er
  refine ⟨h.self, h.tab, h.own, h.clock, ⟨?_, ?_⟩, h.since, h.began, ?_, h.ws, h.c, ?_⟩
  ·show 0 ≤ d.num + 1; omega
  ·show d.num + 1 ≤ 1000000; omega
  ·show ((d.er ++ [_]).drop _).length ≤ 16
   rw [List.length_drop, List.length_append, List.length_singleton]
   omega
  ·intro p hp
   have := h.pr p hp
   exact ⟨this.1, by have h2 := this.2.1; show p.1 ≤ d.num + 1; omega, this.2.2⟩
theorem same_ack (d : Det) (m : Got) : SameNum d (d.ack m).1 := by
 unfold Det.ack
 split
 ·exact ⟨rfl, rfl, rfl, rfl, rfl⟩
 ·split
  ·exact .refl _
  ·exact ⟨rfl, rfl, rfl, rfl, rfl⟩
theorem request_same (d : Det) (m : Got) : (d.request m).1.self = d.self ∧ (d.request m).1.c = d.c ∧ (d.request m).1.clock = d.clock ∧ d.num ≤ (d.request m).1.num ∧ (d.request m).1.num ≤ d.num + 1 ∧ (d.request m).1.left = d.left := by
 unfold Det.request
 split
 ·exact ⟨rfl, rfl, rfl, Int.le_refl _, by show d.num ≤ d.num + 1; omega, rfl⟩
 ·exact ⟨rfl, rfl, rfl, by show d.num ≤ d.num + 1; omega, Int.le_refl _, rfl⟩
theorem on_pre (d : Det) (l : List Mb) : SameNum d (d.hears l).contradict := (same_hears d l).trans (same_contradict _)
theorem DetOk.on {d : Det} (h : DetOk d) (m : Got) (hn : d.num < 1000000) : DetOk (d.on m).1 := by
 have h1 := (h.hears m.ms).contradict
 have s1 := on_pre d m.ms
 unfold Det.on
 dsimp only
 split
 ·exact h1
 ·split
  ·exact h1.ack m
  ·split
   ·exact h1.request m (by rw [s1.num]; exact hn)
   ·exact h1
theorem on_same (d : Det) (m : Got) : (d.on m).1.self = d.self ∧ (d.on m).1.c = d.c ∧ (d.on m).1.clock = d.clock ∧ d.num ≤ (d.on m).1.num ∧ (d.on m).1.num ≤ d.num + 1 ∧ (d.on m).1.left = d.left := by
 have s1 := on_pre d m.ms
 unfold Det.on
 dsimp only
 split
 ·exact ⟨s1.self, s1.c, s1.clock, by rw [s1.num]; exact Int.le_refl _, by rw [s1.num]; omega, s1.left⟩
 ·split
  ·have s2 := s1.trans (same_ack (d.hears m.ms).contradict m)
   exact ⟨s2.self, s2.c, s2.clock, by rw [s2.num]; exact Int.le_refl _, by rw [s2.num]; omega, s2.left⟩
  ·split
   ·obtain ⟨a, b, c, e, f, g⟩ := request_same (d.hears m.ms).contradict m
    rw [s1.num] at e f
    exact ⟨a.trans s1.self, b.trans s1.c, c.trans s1.clock, e, f, g.trans s1.left⟩
   ·exact ⟨s1.self, s1.c, s1.clock, by rw [s1.num]; exact Int.le_refl _, by rw [s1.num]; omega, s1.left⟩
theorem DetOk.leaves {d : Det} (h : DetOk d) : DetOk { d with left := true } := ⟨h.self, h.tab, h.own, h.clock, h.num, h.since, h.began, h.er, h.ws, h.c, h.pr⟩
theorem DetOk.leave {d : Det} (h : DetOk d) : DetOk d.leave.1 := DetOk.hear h.leaves _
theorem leave_same (d : Det) : d.leave.1.self = d.self ∧ d.leave.1.c = d.c ∧ d.leave.1.clock = d.clock ∧ d.leave.1.num = d.num ∧ d.leave.1.left = true := by
 unfold Det.leave
 exact ⟨hear_self _ _, hear_c _ _, hear_clock _ _, hear_num _ _, hear_left _ _⟩
theorem DetOk.new {self inc : Int} {c : DConf} {seed : Int} (hm : Mb.may ⟨self, 1, inc⟩) (hc : c.right) : DetOk (Det.new self inc c seed) where
 self := ⟨hm.1, hm.2.1⟩
 tab := by
  have := TabOk.none.hear (⟨self, 1, inc⟩ : Mb)
  rw [show hearT (fun _ => none) ⟨self, 1, inc⟩ = updT (fun _ => none) self.toNat ⟨1, inc⟩ from if_pos ⟨hm, rfl⟩] at this
  exact this
 own := by
  show ∃ w, updT (fun _ => none) self.toNat ⟨1, inc⟩ self.toNat = some w
  exact ⟨_, updT_same _ _ _⟩
 clock := ⟨Int.le_refl 0, by show (0 : Int) ≤ 1000000; decide⟩
 num := ⟨Int.le_refl 0, by show (0 : Int) ≤ 1000000; decide⟩
 since := fun n v h => nomatch h
 began := ⟨Int.le_refl 0, Int.le_refl 0⟩
 er := by show (0 : Nat) ≤ 16; decide
 ws := by show (0 : Nat) ≤ 8; decide
 c := hc
 pr := fun p h => nomatch h
end Go.Proofs.YtejihgfigclppaaGreat
namespace Go.Proofs.YtejihgfigclppaaGreat
open Go.Shelf Go.RowKit Go.Lib Go.Sort
set_option linter.unusedVariables false
set_option linter.unusedSimpArgs false
set_option maxHeartbeats 4000000 in
theorem some_keep (b : Nat) (v : Value) (s : Int) (ws : List Int) (oa : Option Addr) (cap : Nat) (nodes : List Int) (n : Int) (w : World) (h1 : Ord2 b w s v 139) (h2 : SlAt icells w v ws) (h3 : ∀ g, v.ownBlock = some g → b < g) (hs : SlAt icells w (.slice oa nodes.length cap) nodes) (hl : nodes.length ≤ 900000) :
  Calls Tryz.prog 86 #[.pointer (some ⟨b, 0, none⟩), .slice oa nodes.length cap, .int .i64 n] w fun e w' => ∃ v', e = .returned v' ∧ Ints w.heap.size w' v' (someL s nodes n) ∧ Ord2 b w' (shufL s (onceL nodes)).1 v 139 ∧ SlAt icells w' v ws ∧ w.grownBy w' (some b) := by
 have hb := h1.lt
 have hc := shuffled_any b s v oa cap nodes w h1 hs hl
 have HC := Lib.hid hc
 have hwi := fun (x : Int) W => withinS_any n 0 x W
 have HWI := Lib.hid hwi
 have hsm := someL_is s nodes n
 obtain ⟨sl, hsl⟩ : ∃ sl, sl = someL s nodes n := ⟨_, rfl⟩
 rw [← hsl] at hsm ⊢
 have HSM := Lib.hid hsm
 have H2 := Lib.hid h2
 clear hc hwi hs h1 hsm h2 hsl
 go_enter Tryz.func86, Tryz.ntmps86
 go_wp2_with fail
 refine HC.out.mono ?_
 rintro e w1 ⟨v1, rfl, ho1, hr1, hg1⟩
 have HR1 := Lib.hid hr1
 have HG1 := Lib.hid hg1
 obtain ⟨o1, c1, rfl⟩ := slAt_slice ho1.at
 have hcl : (shufL s (onceL nodes)).2.length ≤ c1 := by
  obtain ⟨oq, cq, hv6, hcap6⟩ := ho1.at.slice_of
  simp only [Value.slice.injEq] at hv6
  omega
 have HO1 := Lib.hid ho1
 clear hr1 hg1 ho1 HC
 go_wp2_with fail
 refine (HWI.out _ _).mono ?_
 rintro e w2 ⟨rfl, rfl⟩
 obtain ⟨k, hk⟩ : ∃ k : Nat, (if ((shufL s (onceL nodes)).2.length : Int) < n then ((shufL s (onceL nodes)).2.length : Int) else if n < 0 then 0 else n) = (k : Int) := by
  refine ⟨(if ((shufL s (onceL nodes)).2.length : Int) < n then ((shufL s (onceL nodes)).2.length : Int) else if n < 0 then 0 else n).toNat, ?_⟩
  generalize (shufL s (onceL nodes)).2.length = m
  split
  ·omega
  ·split <;> omega
 obtain ⟨hkl, hse⟩ := HSM.out k hk
 have hz : (k : Int) ≤ (c1 : Int) := by omega
 have hz1 : k ≤ c1 := by omega
 have hz0 : (0 : Int) ≤ (k : Int) := by omega
 have ho := HO1.out.take icells_len k hkl
 rw [← hse] at ho
 have HO := Lib.hid ho
 rw [hk]
 clear HSM HO1 HWI ho hse hk
 go_wp2_with fail
 all_goals
  go_ret
  refine ⟨_, rfl, ?_, HR1.out, H2.out.grown icells_len (by decide) HG1.out (.inr fun e => by have := h3 b e; omega), HG1.out⟩
  first
   | exact HO.out
   | (have := HO.out; simpa [Addr.add] using this)
theorem DetAt.turnedS {W W' : World} {M : DM} {d : Det} (h : DetAt W M d) (hg : W.grownBy W' (some M.go)) {s : Int} (hw : WaitsAt W' M.go M.wb s d.ws) : DetAt W' M { d with s := s } := by
 obtain ⟨n1, n2, n3, n4, n5, n6, n7, n8, n9⟩ := nod_ne h.nod
 have ho : ∀ k, k < W.heap.size → k ≠ M.go → W'.heap[k]? = W.heap[k]? := fun k hk hne => hg.block k hk fun e => hne (Option.some.inj e)
 exact {
  obj := (ho _ h.lt n2).trans h.obj
  tab := h.tab.keep (ho _ h.tab.lt n4)
  ord := hw
  since := h.since.kept (ho _ h.since.lt n6.symm)
  prs := h.prs.keep fun b hb => ho b (h.prs.lt b hb) (n7 b hb).2.2.1
  ers := h.ers.keep fun b hb => ho b (h.ers.lt b hb).2 (n8 b hb).2.2.1
  nod := h.nod }
theorem infoMsg : (Tryz.prog.info? 42).map (fun i => (i.zero, i.size, i.bytes)) = some (some (.agg #[.int .i64 0, .int .i64 0, .int .i64 0, .int .i64 0, .int .i64 0, .int .i64 0, .int .i64 0, .int .i64 0, .int .i64 0, .int .i64 0, .int .i64 0, .int .i64 0, .int .i64 0, .slice none 0 0, .slice none 0 0, .slice none 0 0]), 16, 176) := by kernel_rfl
theorem owns_obj {α : Type} {enc : α → List Value} {k base e : Nat} {w : World} {v : Value} {l : List α} (h : Owns enc k base e w v l) {b : Nat} (hb : v.ownBlock = some b) : ∃ cs, w.heap[b]? = some (.cells cs e) := by
 rcases h.2 with ⟨hv, _⟩ | ⟨g, cap, cur, hv, _, hh, _⟩
 ·rw [hv] at hb; cases hb
 ·rw [hv] at hb
  obtain rfl : g = b := Option.some.inj hb
  exact ⟨cur, hh⟩
theorem owns_apart {α β : Type} {enc : α → List Value} {enc' : β → List Value} {k k' base base' e e' : Nat} {w : World} {v v' : Value} {l : List α} {l' : List β} (h : Owns enc k base e w v l) (h' : Owns enc' k' base' e' w v' l') (hne : e ≠ e') {b : Nat} (hb : v.ownBlock = some b) : v'.ownBlock ≠ some b := fun hb' => by
 obtain ⟨cs, h1⟩ := owns_obj h hb
 obtain ⟨cs', h2⟩ := owns_obj h' hb'
 rw [h1] at h2
 injection h2 with h3
 injection h3 with h4 h5
 exact hne h5
theorem msgs_app {base : Nat} {w w' : World} {v v' : Value} {ps ms : List PSent} (h : MsgsAt base w v ps) (hms : ∀ p ∈ ms, Owns Mb.cells 3 base 45 w p.1.val p.2.ms) (hown : Owns scells 16 base 42 w' v' (ps ++ ms)) (hg : w.grownBy w' v.ownBlock) : MsgsAt base w' v' (ps ++ ms) := by
 refine ⟨hown, fun p hp => ?_⟩
 have hp' : Owns Mb.cells 3 base 45 w p.1.val p.2.ms := by
  rcases List.mem_append.1 hp with hp | hp
  ·exact h.2 p hp
  ·exact hms p hp
 refine hp'.keep fun b hb => hg.block b (hp'.lt b hb).2 fun e => ?_
 exact owns_apart hp' h.1 (by decide) hb e.symm
end Go.Proofs.YtejihgfigclppaaGreat
