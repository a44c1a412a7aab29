/-
  The law's own small functions: word, ping; what all its statements begin with.
-/
import Derived.Test.YtejihgfigclppaaGreatDetC
namespace Go.Proofs.YtejihgfigclppaaGreat
open Go.Shelf Go.RowKit Go.Lib Go.Sort
set_option linter.unusedVariables false
set_option linter.unusedSimpArgs false
set_option maxHeartbeats 4000000 in
theorem word_any (n : Int) (w : World) : Calls Tryz.prog 14 #[.int .i64 n] w fun e w' => e = .returned (.agg #[.int .i64 n, .int .i64 1, .int .i64 0]) ∧ Below w.heap.size w w' := by
  have hr := heap_alloc_new w (.cells #[.int .i64 n, .int .i64 1, .int .i64 0] 45)
  have HL := Lib.hid (load_whole hr rfl)
  have HB : Hid (Below w.heap.size w (w.alloc (.cells #[.int .i64 n, .int .i64 1, .int .i64 0] 45))) := (Below.refl _ _).alloc (Nat.le_refl _) _
  clear hr
  go_enter Tryz.func14, Tryz.ntmps14
  go_wp2_with fail
  have hL := run_loadVarAgg (t := 45) (n := 3) (by kernel_rfl) (by kernel_rfl) HL.out
  exact bodyPost_ret (v := .agg #[.int .i64 n, .int .i64 1, .int .i64 0]) (run_results_cell rfl rfl hL) rfl ⟨rfl, HB.out⟩
/-- a ping, as a message -/
def pingM (frm to_ seq : Int) (ms : List Mb) (hs : Hdr) : Msg := (⟨1, frm, to_, seq, 0, ms⟩ : Sent).msg hs
set_option maxHeartbeats 4000000 in
theorem lping_any (frm to_ seq : Int) (oa : Option Addr) (n cap : Nat) (w : World) : Calls Tryz.prog 13 #[.int .i64 frm, .int .i64 to_, .int .i64 seq, .slice oa n cap] w fun e w' => e = .returned (.agg #[.int .i64 1, .int .i64 frm, .int .i64 to_, .int .i64 seq, .int .i64 0, .int .i64 0, .int .i64 0, .int .i64 0, .int .i64 0, .int .i64 0, .int .i64 0, .int .i64 0, .int .i64 0, .slice none 0 0, .slice none 0 0, .slice oa n cap]) ∧ Below w.heap.size w w' := by
  have hr := heap_alloc_new w (.cells #[.int .i64 1, .int .i64 frm, .int .i64 to_, .int .i64 seq, .int .i64 0, .int .i64 0, .int .i64 0, .int .i64 0, .int .i64 0, .int .i64 0, .int .i64 0, .int .i64 0, .int .i64 0, .slice none 0 0, .slice none 0 0, .slice oa n cap] 42)
  have HL := Lib.hid (load_whole hr rfl)
  have HB : Hid (Below w.heap.size w (w.alloc (.cells #[.int .i64 1, .int .i64 frm, .int .i64 to_, .int .i64 seq, .int .i64 0, .int .i64 0, .int .i64 0, .int .i64 0, .int .i64 0, .int .i64 0, .int .i64 0, .int .i64 0, .int .i64 0, .slice none 0 0, .slice none 0 0, .slice oa n cap] 42))) := (Below.refl _ _).alloc (Nat.le_refl _) _
  clear hr
  go_enter Tryz.func13, Tryz.ntmps13
  go_wp2_with fail
  have hL := run_loadVarAgg (t := 42) (n := 16) (by kernel_rfl) (by kernel_rfl) HL.out
  exact bodyPost_ret (v := .agg #[.int .i64 1, .int .i64 frm, .int .i64 to_, .int .i64 seq, .int .i64 0, .int .i64 0, .int .i64 0, .int .i64 0, .int .i64 0, .int .i64 0, .int .i64 0, .int .i64 0, .int .i64 0, .slice none 0 0, .slice none 0 0, .slice oa n cap]) (run_results_cell rfl rfl hL) rfl ⟨rfl, HB.out⟩
theorem pingM_in {w : World} {frm to_ seq : Int} {ms : List Mb} {hs : Hdr} (h : SlAt Mb.cells w hs.val ms) : MsgIn w (pingM frm to_ seq ms hs) :=
  ⟨SlAt.nil _ _, ⟨SlAt.nil _ _, fun p hp => nomatch hp⟩, h⟩
/-- one message sent, read -/
theorem msg_one {base : Nat} {w : World} {v : Value} {ps : List PSent} {s : Sent} (h : MsgsAt base w v ps) (hp : ps.map (·.2) = [s]) : ∃ g c hd, v = .slice (some ⟨g, 0, none⟩) 1 c ∧ ps = [(hd, s)] ∧ base ≤ g ∧ g < w.heap.size ∧ SlAt Mb.cells w hd.val s.ms ∧ ∀ k, k < 16 → w.cell? ⟨g, k, none⟩ = (scells (hd, s))[k]? := by
  have hl : ps.length = 1 := by have := congrArg List.length hp; simpa using this
  obtain ⟨⟨hd, s'⟩, rfl⟩ := List.length_eq_one_iff.1 hl
  simp only [List.map_cons, List.map_nil, List.cons.injEq, and_true] at hp
  subst hp
  rcases h.1.2 with ⟨hv, hn⟩ | ⟨g, cap, cur, hv, hb, hh, hc, hm, hs, ht⟩
  · cases hn
  · subst hv
    refine ⟨g, cap, hd, rfl, rfl, hb, (Array.getElem?_eq_some_iff.1 hh).1, (h.2 _ (List.mem_singleton.2 rfl)).at, fun k hk => ?_⟩
    have := h.1.at.cell scells_len (i := 0) (c := k) (by simp) hk
    rw [show 0 + (0 * 16 + k) = k by omega] at this
    exact this
theorem tick_stepped (M : DM) (d : Det) (hok : DetOk d) (hc : d.clock < 1000000) (hn : d.num < 1000000) (w : World) (h : DetAt w M d) :
    Calls Tryz.prog 15 #[.pointer (some ⟨M.g, 0, none⟩)] w fun e w' => ∃ v, e = .returned v ∧ Stepped M d.tick.1 d.tick.2 w v w' := by
  refine (tick_any M d hok hc hn w h).mono ?_
  rintro e w' ⟨v, M', ps, rfl, h1, h2, h3, h4, h5, h6⟩
  refine ⟨v, rfl, M', ps, h1, h2, h3, h4, h5, h6.mono fun n hn hL => ?_⟩
  rcases hL with e | e | e | e
  · rw [e]; exact M.mem_g
  · rw [e]; exact M.mem_gt
  · rw [e]; exact M.mem_go
  · rw [e]; exact M.mem_gm
/-- a block aside of a detector's own lives on through a step -/
theorem aside_kept {M M' : DM} {w w' : World} (ht : Touch (fun k => k ∈ M.own) w w') (hn : NewM M M' w) {g : Nat} (hg : g < w.heap.size) (hm : g ∉ M.own) : w'.heap[g]? = w.heap[g]? ∧ g ∉ M'.own ∧ g < w'.heap.size :=
  ⟨ht.block g hg hm, fun e => (hn.own g e).elim hm fun h => by omega, Nat.lt_of_lt_of_le hg ht.size⟩
/-- a ping handed to a detector that is there, and takes it -/
theorem onPing_any (M : DM) (d : Det) (hok : DetOk d) (hn : d.num < 1000000) (hl : d.left = false) (frm seq : Int) (hf : 0 ≤ frm ∧ frm ≤ 7) (hne : frm ≠ d.self) (hq : 0 ≤ seq ∧ seq ≤ 1099511627776) (ms : List Mb) (hms : MsOk ms) (hs : ms.length ≤ 1000) (hd : Hdr) (w : World) (hsl : SlAt Mb.cells w hd.val ms) (hA : ∀ b, hd.val.ownBlock = some b → b ∉ M.own) (h : DetAt w M d) :
    Calls Tryz.prog 12 #[.pointer (some ⟨M.g, 0, none⟩), .agg #[.int .i64 1, .int .i64 frm, .int .i64 d.self, .int .i64 seq, .int .i64 0, .int .i64 0, .int .i64 0, .int .i64 0, .int .i64 0, .int .i64 0, .int .i64 0, .int .i64 0, .int .i64 0, .slice none 0 0, .slice none 0 0, hd.val]] w fun e w' =>
      ∃ v, e = .returned (.tuple #[v, .int .i64 0]) ∧ Stepped M (d.on ⟨1, frm, d.self, seq, 0, ms⟩).1 (d.on ⟨1, frm, d.self, seq, 0, ms⟩).2 w v w' := by
  have hr : (pingM frm d.self seq ms hd).right := Sent.right (.inl rfl) hf hok.self hne hq (.inr rfl) hms
  have hb : badOn d (pingM frm d.self seq ms hd) = false := by
    unfold badOn
    rw [Msg.rightB_true hr, show decide ((pingM frm d.self seq ms hd).to_ = d.self) = true from decide_eq_true rfl]
    rfl
  have hc := on_any M d hok hn (pingM frm d.self seq ms hd) (Sent.small hs) w (pingM_in hsl) (.inr hA) h
  exact hc.mono fun e w' ⟨_, _, h3⟩ => h3 hb hl
def dA0 : Det := Det.new 0 0 ⟨1, 0, 2⟩ 1
def dA1 : Det × List Sent := dA0.on ⟨1, 1, 0, 5, 0, [⟨1, 1, 0⟩]⟩
def dA2 : Det × List Sent := dA1.1.tick
def dA3 : Det × List Sent := dA2.1.tick
def dA4 : Det × List Sent := dA3.1.tick
def dA5 : Det × List Sent := dA4.1.tick
def dA6 : Det × List Sent := dA5.1.tick
theorem okA0 : DetOk dA0 := DetOk.new (by decide) (by decide)
theorem okA1 : DetOk dA1.1 := okA0.on _ (by decide)
theorem okA2 : DetOk dA2.1 := okA1.tick (by decide +kernel) (by decide +kernel)
theorem okA3 : DetOk dA3.1 := okA2.tick (by decide +kernel) (by decide +kernel)
theorem okA4 : DetOk dA4.1 := okA3.tick (by decide +kernel) (by decide +kernel)
theorem okA5 : DetOk dA5.1 := okA4.tick (by decide +kernel) (by decide +kernel)
theorem outA1 : dA1.2 = [⟨2, 0, 1, 5, 0, allT dA1.1.tab⟩] := rfl
theorem outA2 : ∃ s : Sent, dA2.2 = [s] ∧ s.kind = 1 := by
  have h : dA2.2.map (·.kind) = [1] := by decide +kernel
  cases e : dA2.2 with
  | nil => rw [e] at h; cases h
  | cons a l => cases l with
    | nil => exact ⟨a, rfl, by rw [e] at h; simpa using h⟩
    | cons b l => rw [e] at h; simp at h
theorem outA3 : dA3.2.length = 0 := by decide +kernel
theorem outA4 : dA4.2.length = 1 := by decide +kernel
theorem wordsA4 : allT dA4.1.tab = [⟨0, 1, 0⟩, ⟨1, 2, 0⟩] := by decide +kernel
theorem wordsA6 : allT dA6.1.tab = [⟨0, 1, 0⟩, ⟨1, 3, 0⟩] := by decide +kernel
/-- the example, step by step -/
structure ExA (d0 d1 d2 d3 d4 d5 d6 : Det) (l1 l2 l3 l4 l5 l6 : List Sent) : Prop where
  s0 : Det.new 0 0 ⟨1, 0, 2⟩ 1 = d0
  s1 : d0.on ⟨1, 1, d0.self, 5, 0, [⟨1, 1, 0⟩]⟩ = (d1, l1)
  s2 : d1.tick = (d2, l2)
  s3 : d2.tick = (d3, l3)
  s4 : d3.tick = (d4, l4)
  s5 : d4.tick = (d5, l5)
  s6 : d5.tick = (d6, l6)
  z0 : d0.self = 0
  lf0 : d0.left = false
  k0 : DetOk d0
  k1 : DetOk d1
  k2 : DetOk d2
  k3 : DetOk d3
  k4 : DetOk d4
  k5 : DetOk d5
  n0 : d0.num < 1000000
  c1 : d1.clock < 1000000
  n1 : d1.num < 1000000
  c2 : d2.clock < 1000000
  n2 : d2.num < 1000000
  c3 : d3.clock < 1000000
  n3 : d3.num < 1000000
  c4 : d4.clock < 1000000
  n4 : d4.num < 1000000
  c5 : d5.clock < 1000000
  n5 : d5.num < 1000000
  o1 : ∃ s : Sent, l1 = [s] ∧ s.kind = 2 ∧ s.seq = 5
  o2 : ∃ s : Sent, l2 = [s] ∧ s.kind = 1
  o3 : l3.length = 0
  o4 : l4.length = 1
  w4 : allT d4.tab = [⟨0, 1, 0⟩, ⟨1, 2, 0⟩]
  w6 : allT d6.tab = [⟨0, 1, 0⟩, ⟨1, 3, 0⟩]
theorem exA : ∃ d0 d1 d2 d3 d4 d5 d6 l1 l2 l3 l4 l5 l6, ExA d0 d1 d2 d3 d4 d5 d6 l1 l2 l3 l4 l5 l6 :=
  ⟨dA0, dA1.1, dA2.1, dA3.1, dA4.1, dA5.1, dA6.1, dA1.2, dA2.2, dA3.2, dA4.2, dA5.2, dA6.2, {
    s0 := rfl, s1 := rfl, s2 := rfl, s3 := rfl, s4 := rfl, s5 := rfl, s6 := rfl, z0 := rfl, lf0 := rfl
    k0 := okA0, k1 := okA1, k2 := okA2, k3 := okA3, k4 := okA4, k5 := okA5
    n0 := by decide
    c1 := by decide +kernel
    n1 := by decide +kernel
    c2 := by decide +kernel
    n2 := by decide +kernel
    c3 := by decide +kernel
    n3 := by decide +kernel
    c4 := by decide +kernel
    n4 := by decide +kernel
    c5 := by decide +kernel
    n5 := by decide +kernel
    o1 := ⟨_, outA1, rfl, rfl⟩
    o2 := outA2
    o3 := outA3
    o4 := outA4
    w4 := wordsA4
    w6 := wordsA6 }⟩
end Go.Proofs.YtejihgfigclppaaGreat
