/-
  book.set walked: the set that holds just the dots of a map.
-/
import Derived.Test.YtidiapgdgoeplaaDotList
import Derived.Test.YtidiapgdgoeplaaBookOwn
namespace Go.Proofs.Ytidiapgdgoeplaa
open Go.Shelf Go.RowKit Go.Lib Go.Sort
set_option linter.unusedVariables false
/-- the dots of G that are no longer to come -/
def gone (G : Grid) (todo : List (Dot × Value)) : Grid := fun n q => G n q && decide (∀ p ∈ todo, p.1.node.toNat = n → p.1.seq.toNat ≠ q)
theorem gone_nil (G : Grid) : gone G [] = G := by
  funext n q
  simp [gone]
theorem gone_ok {G : Grid} (h : G.Ok) (todo : List (Dot × Value)) : (gone G todo).Ok := fun n q e => by
  unfold gone at e
  rw [Bool.and_eq_true] at e
  exact h n q e.1
theorem gone_all {G : Grid} (h : G.Ok) {E : List (Dot × Value)} (hE : ∀ d, May d → G d.node.toNat d.seq.toNat = true → d ∈ E.map (·.1)) : gone G E = Grid.none := by
  funext n q
  show gone G E n q = false
  unfold gone
  cases hg : G n q with
  | false => rfl
  | true =>
    obtain ⟨h1, h2, h3⟩ := h n q hg
    obtain ⟨p, hp, e⟩ := List.mem_map.1 (hE ⟨n, q⟩ (by unfold May; dsimp only; omega) (by simpa using hg))
    rw [Bool.true_and, decide_eq_false_iff_not]
    intro hall
    exact hall p hp (by rw [e]; simp) (by rw [e]; simp)
theorem gone_not {G : Grid} {todo : List (Dot × Value)} {d : Dot} {v : Value} (hd : (d, v) ∈ todo) : gone G todo d.node.toNat d.seq.toNat = false := by
  unfold gone
  rw [Bool.and_eq_false_iff, decide_eq_false_iff_not]
  exact .inr fun h => h (d, v) hd rfl rfl
theorem gone_del {G : Grid} {todo : List (Dot × Value)} (hm : ∀ p ∈ todo, May p.1 ∧ G p.1.node.toNat p.1.seq.toNat = true) {d : Dot} {v : Value} (hd : (d, v) ∈ todo) : gone G (delE todo d) = (gone G todo).put d.node.toNat d.seq.toNat := by
  obtain ⟨hdm, hdg⟩ := hm _ hd
  funext n q
  rw [Bool.eq_iff_iff]
  unfold gone Grid.put
  simp only [Bool.and_eq_true, Bool.or_eq_true, decide_eq_true_eq]
  constructor
  · rintro ⟨h1, h2⟩
    by_cases e : n = d.node.toNat ∧ q = d.seq.toNat
    · exact .inr e
    · refine .inl ⟨h1, fun p hp e1 e2 => ?_⟩
      by_cases hpd : p.1 = d
      · rw [hpd] at e1 e2; exact e ⟨e1.symm, e2.symm⟩
      · exact h2 p (mem_delE.2 ⟨hp, hpd⟩) e1 e2
  · rintro (⟨h1, h2⟩ | ⟨rfl, rfl⟩)
    · exact ⟨h1, fun p hp e1 => h2 p (mem_delE.1 hp).1 e1⟩
    · refine ⟨hdg, fun p hp e1 e2 => ?_⟩
      obtain ⟨hp1, hp2⟩ := mem_delE.1 hp
      exact hp2 (may_inj (hm p hp1).1 hdm e1 e2)
theorem DotRange.sub {w : World} {b r : Nat} {E todo : List (Dot × Value)} (h : DotRange w b r E todo) : ∀ p ∈ todo, p ∈ E := by
  obtain ⟨_, _, _, _, _, _, h, _⟩ := h
  exact h
theorem Owns.past {α : Type} {enc : α → List Value} {k base e b : Nat} {w w' : World} {v : Value} {l : List α} (h : Owns enc k base e w v l) (hg : w.grownBy w' (some b)) (hb : b < base) : Owns enc k base e w' v l :=
  h.keep fun g hv => by
    obtain ⟨h1, h2⟩ := h.lt g hv
    exact hg.block g h2 (fun e => by have := Option.some.inj e; omega)
/-- a set in the cells of block b -/
def SetRow (w : World) (b : Nat) (hd : Hdr) (s : DSet) : Prop := w.heap[b]? = some (.cells #[.int .i64 (s.u 0), .int .i64 (s.u 1), .int .i64 (s.u 2), .int .i64 (s.u 3), .int .i64 (s.u 4), .int .i64 (s.u 5), .int .i64 (s.u 6), .int .i64 (s.u 7), hd.val] 42)
theorem SetRow.cells {w : World} {b : Nat} {hd : Hdr} {s : DSet} (h : SetRow w b hd s) : w.cell? ⟨b, 0, none⟩ = some (.int .i64 (s.u 0)) ∧ w.cell? ⟨b, 1, none⟩ = some (.int .i64 (s.u 1)) ∧ w.cell? ⟨b, 2, none⟩ = some (.int .i64 (s.u 2)) ∧ w.cell? ⟨b, 3, none⟩ = some (.int .i64 (s.u 3)) ∧ w.cell? ⟨b, 4, none⟩ = some (.int .i64 (s.u 4)) ∧ w.cell? ⟨b, 5, none⟩ = some (.int .i64 (s.u 5)) ∧ w.cell? ⟨b, 6, none⟩ = some (.int .i64 (s.u 6)) ∧ w.cell? ⟨b, 7, none⟩ = some (.int .i64 (s.u 7)) ∧ w.cell? ⟨b, 8, none⟩ = some hd.val :=
  ⟨cell_of_row w b 0 _ _ _ h, cell_of_row w b 1 _ _ _ h, cell_of_row w b 2 _ _ _ h, cell_of_row w b 3 _ _ _ h, cell_of_row w b 4 _ _ _ h, cell_of_row w b 5 _ _ _ h, cell_of_row w b 6 _ _ _ h, cell_of_row w b 7 _ _ _ h, cell_of_row w b 8 _ _ _ h⟩
theorem SetRow.free {w : World} {b : Nat} {hd : Hdr} {s : DSet} (h : SetRow w b hd s) (o : Nat) : w.frozen? ⟨b, o, none⟩ = false := by unfold World.frozen?; rw [h]; simp
/-- the nine cells of block b set -/
abbrev put9 (w : World) (b : Nat) (s : DSet) (v : Value) : World := (((((((((w.setCell ⟨b, 0, none⟩ (.int .i64 (s.u 0))).setCell ⟨b, 1, none⟩ (.int .i64 (s.u 1))).setCell ⟨b, 2, none⟩ (.int .i64 (s.u 2))).setCell ⟨b, 3, none⟩ (.int .i64 (s.u 3))).setCell ⟨b, 4, none⟩ (.int .i64 (s.u 4))).setCell ⟨b, 5, none⟩ (.int .i64 (s.u 5))).setCell ⟨b, 6, none⟩ (.int .i64 (s.u 6))).setCell ⟨b, 7, none⟩ (.int .i64 (s.u 7))).setCell ⟨b, 8, none⟩ v)
theorem SetRow.put9 {w : World} {b : Nat} {hd : Hdr} {s : DSet} (h : SetRow w b hd s) (hd' : Hdr) (t : DSet) : SetRow (put9 w b t hd'.val) b hd' t := by
  unfold SetRow at h ⊢
  have h0 := heap_setCell_same _ b 0 _ _ (.int .i64 (t.u 0)) h
  simp only [List.setIfInBounds_toArray, List.set_cons_zero] at h0
  have h1 := heap_setCell_same _ b 1 _ _ (.int .i64 (t.u 1)) h0
  simp only [List.setIfInBounds_toArray, List.set_cons_zero, List.set_cons_succ] at h1
  have h2 := heap_setCell_same _ b 2 _ _ (.int .i64 (t.u 2)) h1
  simp only [List.setIfInBounds_toArray, List.set_cons_zero, List.set_cons_succ] at h2
  have h3 := heap_setCell_same _ b 3 _ _ (.int .i64 (t.u 3)) h2
  simp only [List.setIfInBounds_toArray, List.set_cons_zero, List.set_cons_succ] at h3
  have h4 := heap_setCell_same _ b 4 _ _ (.int .i64 (t.u 4)) h3
  simp only [List.setIfInBounds_toArray, List.set_cons_zero, List.set_cons_succ] at h4
  have h5 := heap_setCell_same _ b 5 _ _ (.int .i64 (t.u 5)) h4
  simp only [List.setIfInBounds_toArray, List.set_cons_zero, List.set_cons_succ] at h5
  have h6 := heap_setCell_same _ b 6 _ _ (.int .i64 (t.u 6)) h5
  simp only [List.setIfInBounds_toArray, List.set_cons_zero, List.set_cons_succ] at h6
  have h7 := heap_setCell_same _ b 7 _ _ (.int .i64 (t.u 7)) h6
  simp only [List.setIfInBounds_toArray, List.set_cons_zero, List.set_cons_succ] at h7
  have h8 := heap_setCell_same _ b 8 _ _ hd'.val h7
  simp only [List.setIfInBounds_toArray, List.set_cons_zero, List.set_cons_succ] at h8
  exact h8
theorem grown_put9 {a w : World} {b : Nat} (h : a.grownBy w (some b)) (s : DSet) (v : Value) : a.grownBy (put9 w b s v) (some b) :=
  grown_set (grown_set (grown_set (grown_set (grown_set (grown_set (grown_set (grown_set (grown_set h _) _) _) _) _) _) _) _) _
set_option maxHeartbeats 8000000 in
theorem bookSet_any (ms : Nat) (G : Grid) (hG : G.Ok) (Es : List (Dot × Value)) (w : World) (h : DotMapAt w ms Es) (hE : ∀ d v, (d, v) ∈ Es ↔ v = .bool true ∧ May d ∧ G d.node.toNat d.seq.toNat = true) :
    Calls Try.prog 31 #[.map (some ms)] w fun e w' => ∃ (hd : Hdr) (r : DSet), e = .returned (.agg (qcells (hd, r)).toArray) ∧ Closes G r ∧ Owns Dot.cells 2 w.heap.size 28 w' hd.val r.more ∧ Below w.heap.size w w' := by
  have hm2 := (h.below (((Below.refl w.heap.size w).alloc (Nat.le_refl _) (.cells #[.int .i64 0, .int .i64 0, .int .i64 0, .int .i64 0, .int .i64 0, .int .i64 0, .int .i64 0, .int .i64 0, .slice none 0 0] 42)).alloc (by simp) (.cells #[.int .i64 0, .int .i64 0, .int .i64 0, .int .i64 0, .int .i64 0, .int .i64 0, .int .i64 0, .int .i64 0, .slice none 0 0] 42)) h.lt)
  obtain ⟨w1, hrun1, hrg1, hg1, hs1⟩ := hm2.range Try.underlying53
  obtain ⟨hr0, hr1, hb2, hsz⟩ := alloc2 w (.cells #[.int .i64 0, .int .i64 0, .int .i64 0, .int .i64 0, .int .i64 0, .int .i64 0, .int .i64 0, .int .i64 0, .slice none 0 0] 42) (.cells #[.int .i64 0, .int .i64 0, .int .i64 0, .int .i64 0, .int .i64 0, .int .i64 0, .int .i64 0, .int .i64 0, .slice none 0 0] 42)
  rw [hsz] at hrun1 hrg1 hs1
  have hmslt := h.lt
  have hk1 : ∀ i, i < w.heap.size + 2 → w1.heap[i]? = _ := fun i hi => hg1.block i (by rw [hsz]; exact hi) (by simp)
  have hs0 : SetRow w1 w.heap.size ⟨none, 0, 0⟩ DSet.none := (hk1 _ (by omega)).trans hr0
  have hs1' : SetRow w1 (w.heap.size + 1) ⟨none, 0, 0⟩ DSet.none := (hk1 _ (by omega)).trans hr1
  have hb1 : Below w.heap.size w w1 := hb2.grown hg1 (by rw [hsz]; omega) (fun k hk => nomatch hk)
  have HB1 := Lib.hid hb1
  have HS0 := Lib.hid hs0
  have HS1 := Lib.hid hs1'
  have HRG1 := Lib.hid hrg1
  have HE := Lib.hid hE
  have HG := Lib.hid hG
  clear hg1 hb1 hs0 hs1' hk1 hrg1 hE hG hb2 hr0 hr1 hm2 h
  go_enter Try.func31, Try.ntmps31
  go_wp2_with fail
  clear hrun1 hsz
  go_loopg [4] Es.length (fun gk s4 wr => ∃ (todo : List (Dot × Value)) (hd : Hdr) (s : DSet), todo.length ≤ gk ∧ Hid (DotRange wr ms (w.heap.size + 2) Es todo) ∧ Hid (SetRow wr (w.heap.size + 1) hd s) ∧ Hid (SetRow wr w.heap.size ⟨none, 0, 0⟩ DSet.none) ∧ Hid (Owns Dot.cells 2 (w.heap.size + 3) 28 wr hd.val s.more) ∧ Hid (Closes (gone G todo) s) ∧ Hid (Below w.heap.size w wr) ∧ w.heap.size + 3 ≤ wr.heap.size)
  case atStart => exact ⟨Es, ⟨none, 0, 0⟩, DSet.none, Nat.le_refl _, HRG1.out, HS1.out, HS0.out, Owns.nil _ _ _ _ _, by rw [gone_all HG.out fun d hd hg => List.mem_map.2 ⟨(d, .bool true), (HE.out d _).2 ⟨rfl, hd, hg⟩, rfl⟩]; exact closes_none, HB1.out, by omega⟩
  case round =>
    obtain ⟨todo, ⟨oa, n, ca⟩, s, hg, HR, HS, HS0, HO, HC, HB, hszr⟩ := hrel
    obtain rfl : n = s.more.length := by
      obtain ⟨_, _, hv, _⟩ := HO.out.at.slice_of
      simp only [Hdr.val, Value.slice.injEq] at hv
      exact hv.2.1
    rcases HR.out.next 0 with ⟨htd, hrun⟩ | ⟨d, v, w2, hmem, hrun, hrg2, hlen2, hg2, hs2, hen⟩
    · subst htd
      obtain ⟨c0, c1, c2, c3, c4, c5, c6, c7, c8⟩ := HS.out.cells
      obtain ⟨k0, k1, k2, k3, k4, k5, k6, k7, k8⟩ := HS0.out.cells
      have z0 := HS0.out.free
      simp only [Hdr.val] at c8 k8
      clear HR HB1 HS1 HRG1
      go_wp2_with fail
      have hrow := HS0.out.put9 ⟨oa, s.more.length, ca⟩ s
      have hgr := grown_put9 (World.grownBy.refl wr (some w.heap.size)) s (.slice oa s.more.length ca)
      obtain ⟨m0, m1, m2, m3, m4, m5, m6, m7, m8⟩ := hrow.cells
      simp only [Hdr.val] at m0 m1 m2 m3 m4 m5 m6 m7 m8
      clear c0 c1 c2 c3 c4 c5 c6 c7 c8 k0 k1 k2 k3 k4 k5 k6 k7 k8
      refine bodyPost_ret (v := .agg (qcells (⟨oa, s.more.length, ca⟩, s)).toArray) (by simp [results, Try.results31, go_sem, m0, m1, m2, m3, m4, m5, m6, m7, m8, qcells, Hdr.val]) rfl ⟨⟨oa, s.more.length, ca⟩, s, rfl, by rw [← gone_nil G]; exact HC.out, ((HO.out.past hgr (by omega)).lower (by omega)), HB.out.grown hgr HB.out.size (fun k hk => by cases hk; exact Nat.le_refl _)⟩
    · have hsub := HR.out.sub
      have hdm := (HE.out d v).1 (hsub _ hmem)
      have hgd := gone_del (G := G) (fun p hp => ((HE.out p.1 p.2).1 (hsub p hp)).2) hmem
      have hgn := gone_not (G := G) hmem
      have hok := gone_ok HG.out todo
      have hgr := HC.out.grid hok
      have hk2 : ∀ i, i < wr.heap.size → i ≠ w.heap.size + 2 → w2.heap[i]? = wr.heap[i]? := fun i hi hne => hg2.block i hi (fun e => hne (Option.some.inj e))
      have hs1 : SetRow w2 (w.heap.size + 1) ⟨oa, s.more.length, ca⟩ s := (hk2 _ (by omega) (by omega)).trans HS.out
      have hs0 : SetRow w2 w.heap.size ⟨none, 0, 0⟩ DSet.none := (hk2 _ (by omega) (by omega)).trans HS0.out
      have ho2 := HO.out.past hg2 (by omega)
      have hb2 : Below w.heap.size w w2 := HB.out.grown hg2 HB.out.size (fun k hk => by cases hk; omega)
      have hs1a : SetRow (w2.alloc (.cells #[.int .i64 d.node, .int .i64 d.seq] 28)) (w.heap.size + 1) ⟨oa, s.more.length, ca⟩ s := (Below.heap_alloc _ _ _ (by omega)).trans hs1
      obtain ⟨c0, c1, c2, c3, c4, c5, c6, c7, c8⟩ := hs1a.cells
      simp only [Hdr.val] at c8
      have hml : s.more.length ≤ 768 := (HC.out.right hok).2.1
      have hba := (Below.refl w2.heap.size w2).alloc (Nat.le_refl _) (.cells #[.int .i64 d.node, .int .i64 d.seq] 28)
      have hadd := add_any oa ca s d (w2.alloc (.cells #[.int .i64 d.node, .int .i64 d.seq] 28)) (ho2.at.below Dot.cells_len (by decide) hba (Nat.le_refl _)) (by omega)
      have hlt1 : w.heap.size + 1 < w2.heap.size := by omega
      have HADD := Lib.hid hadd
      have HS2 := Lib.hid hs1
      have HS02 := Lib.hid hs0
      have HB2 := Lib.hid (hb2.trans (hba.mono (by omega)))
      have HR2 := Lib.hid hrg2
      have HDM := Lib.hid hdm.2.1
      have HGD := Lib.hid hgd
      have HHAS := Lib.hid (show hasB s d = false from by unfold hasB; rw [hgr]; exact hgn)
      have HGR := Lib.hid hgr
      unfold dotVal at hrun hen
      clear hsub hdm hgd hgn hok hgr hk2 hs1 hs1a hs0 ho2 hb2 hba hadd hrg2 hmem HR HS HS0 HO HC HB HB1 HS1 HRG1
      go_wp2_with fail
      refine HADD.out.mono ?_
      rintro e w3 ⟨⟨o3, n3, q3⟩, t, c, rfl, hown3, hb3, hcs⟩
      have hct : c = 0 ∧ Closes (gone G (delE todo d)) t := by
        rcases hcs with ⟨h1, _⟩ | ⟨_, h1, _⟩ | ⟨_, _, h1, h2⟩
        · exact absurd HDM.out h1
        · rw [HHAS.out] at h1; cases h1
        · exact ⟨h1, by rw [HGD.out, ← HGR.out]; exact h2⟩
      obtain ⟨rfl, hcl⟩ := hct
      obtain rfl : n3 = t.more.length := by
        obtain ⟨_, _, hv, _⟩ := hown3.at.slice_of
        simp only [Hdr.val, Value.slice.injEq] at hv
        exact hv.2.1
      rw [World.size_alloc] at hown3 hb3
      have h3sz : w2.heap.size + 1 ≤ w3.heap.size := by have := hb3.size; rw [World.size_alloc] at this; exact this
      have hk3 : ∀ i, i < w2.heap.size → w3.heap[i]? = w2.heap[i]? := fun i hi => (hb3.block i (by omega)).trans (Below.heap_alloc _ _ _ hi)
      have hs3 : SetRow (w3.alloc (.cells #[.int .i64 (t.u 0), .int .i64 (t.u 1), .int .i64 (t.u 2), .int .i64 (t.u 3), .int .i64 (t.u 4), .int .i64 (t.u 5), .int .i64 (t.u 6), .int .i64 (t.u 7), .slice o3 t.more.length q3] 42)) (w.heap.size + 1) ⟨oa, s.more.length, ca⟩ s := (Below.heap_alloc _ _ _ (by have := hb3.size; omega)).trans ((hk3 _ hlt1).trans HS2.out)
      have hs03 : SetRow w3 w.heap.size ⟨none, 0, 0⟩ DSet.none := (hk3 _ (by omega)).trans HS02.out
      have hg3 : w2.grownBy (w3.alloc (.cells #[.int .i64 (t.u 0), .int .i64 (t.u 1), .int .i64 (t.u 2), .int .i64 (t.u 3), .int .i64 (t.u 4), .int .i64 (t.u 5), .int .i64 (t.u 6), .int .i64 (t.u 7), .slice o3 t.more.length q3] 42)) none := ⟨(hb3.os), (hb3.tape), (hb3.output), by rw [World.size_alloc]; have := hb3.size; omega, fun i hi _ => (Below.heap_alloc _ _ _ (by have := hb3.size; omega)).trans (hk3 i hi)⟩
      have hr3 := HR2.out.kept hg3 (by simp) (by simp)
      have hb3w : Below w.heap.size w (w3.alloc (.cells #[.int .i64 (t.u 0), .int .i64 (t.u 1), .int .i64 (t.u 2), .int .i64 (t.u 3), .int .i64 (t.u 4), .int .i64 (t.u 5), .int .i64 (t.u 6), .int .i64 (t.u 7), .slice o3 t.more.length q3] 42)) := (HB2.out.trans (hb3.mono (by omega))).alloc (by have := hb3.size; omega) _
      have hown3a := (hown3.below ((Below.refl w3.heap.size w3).alloc (Nat.le_refl _) (.cells #[.int .i64 (t.u 0), .int .i64 (t.u 1), .int .i64 (t.u 2), .int .i64 (t.u 3), .int .i64 (t.u 4), .int .i64 (t.u 5), .int .i64 (t.u 6), .int .i64 (t.u 7), .slice o3 t.more.length q3] 42)) (Nat.le_refl _)).lower (base' := w.heap.size + 3) (by omega)
      have hsz3 : w.heap.size + 3 ≤ (w3.alloc (.cells #[.int .i64 (t.u 0), .int .i64 (t.u 1), .int .i64 (t.u 2), .int .i64 (t.u 3), .int .i64 (t.u 4), .int .i64 (t.u 5), .int .i64 (t.u 6), .int .i64 (t.u 7), .slice o3 t.more.length q3] 42)).heap.size := by rw [World.size_alloc]; have := hb3.size; omega
      have z3 := hs3.free
      have k3 := hs3.cells
      obtain ⟨k0, k1, k2, k3, k4, k5, k6, k7, k8⟩ := k3
      simp only [Hdr.val] at k8 hown3a
      have HS3 := Lib.hid hs3
      have HS03 := Lib.hid hs03
      have HR3 := Lib.hid hr3
      have HB3 := Lib.hid hb3w
      have HO3 := Lib.hid hown3a
      have HC3 := Lib.hid hcl
      clear c0 c1 c2 c3 c4 c5 c6 c7 c8 hcs hcl hown3 hown3a hb3w hr3 hg3 hs03 hs3 hk3 hb3 HADD HS2 HS02 HB2 HR2 HDM HGD HHAS HGR
      have hq : (qcells (⟨o3, t.more.length, q3⟩, t)).toArray = #[.int .i64 (t.u 0), .int .i64 (t.u 1), .int .i64 (t.u 2), .int .i64 (t.u 3), .int .i64 (t.u 4), .int .i64 (t.u 5), .int .i64 (t.u 6), .int .i64 (t.u 7), .slice o3 t.more.length q3] := rfl
      rw [hq]
      clear hq
      go_wp2_with fail
      have hrow := HS3.out.put9 ⟨o3, t.more.length, q3⟩ t
      have hgr := grown_put9 (World.grownBy.refl (w3.alloc (.cells #[.int .i64 (t.u 0), .int .i64 (t.u 1), .int .i64 (t.u 2), .int .i64 (t.u 3), .int .i64 (t.u 4), .int .i64 (t.u 5), .int .i64 (t.u 6), .int .i64 (t.u 7), .slice o3 t.more.length q3] 42)) (some (w.heap.size + 1))) t (.slice o3 t.more.length q3)
      go_roundg ((delE todo d).length)
      case measure => omega
      case rel =>
        refine ⟨delE todo d, ⟨o3, t.more.length, q3⟩, t, Nat.le_refl _, HR3.out.kept hgr ?_ (by simp), hrow, (hgr.block _ ?_ ?_).trans ((Below.heap_alloc _ _ _ ?_).trans HS03.out), HO3.out.past hgr (by omega), HC3.out, HB3.out.grown hgr HB3.out.size ?_, Nat.le_trans hsz3 hgr.size⟩
        · exact fun e => by have := Option.some.inj e; omega
        · omega
        · simp
        · omega
        · intro k hk; cases hk; omega
end Go.Proofs.Ytidiapgdgoeplaa
