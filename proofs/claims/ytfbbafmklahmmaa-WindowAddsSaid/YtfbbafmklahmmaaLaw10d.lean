/-
  The law WindowAdds walked: it returns true, and turns nothing that was there.
-/
import Derived.Test.YtfbbafmklahmmaaAddsP
import Derived.Test.YtfbbafmklahmmaaOpenEv
import Derived.Test.YtfbbafmklahmmaaRef07
import Derived.Deep.DeepCutAuto
import Derived.Test.YtfbbafmklahmmaaRegInv
import Derived.Test.YtfbbafmklahmmaaTwoApp
namespace Go.Proofs.Ytfbbafmklahmmaa
open Go.Shelf Go.RowKit Go.Lib Go.Sort
set_option linter.unusedVariables false

theorem loadN_nodes (evs : List Ev) (work size : Int) : ∀ n : Nat, 0 ≤ (loadN evs work size n).2 ∧ (loadN evs work size n).2 ≤ n
  | 0 => by simp [loadN]
  | n + 1 => by
    have h := loadN_nodes evs work size n
    simp only [loadN, loadStep]
    split
    · simp only; omega
    · omega
set_option maxRecDepth 100000 in
set_option maxHeartbeats 8000000 in
theorem lawAdds (oa : Option Addr) (cap : Nat) (ps : List PEv) (size v : Int) (w : World) (h : EvsAt w (.slice oa ps.length cap) ps) (hl : ps.length ≤ 1099511627776) (hf : ∀ p ∈ ps, p.2.fits) (hv0 : 0 ≤ v) (hv1 : v ≤ 65535) :
    Calls Try.prog 6 #[.slice oa ps.length cap, .int .i64 size, .int .u16 v] w fun e w' => e = .returned (.bool true) ∧ RowKit.Below w.heap.size w w' := by
  have HE := Lib.hid h
  have AL := Lib.hid alive10
  have hgr := fun W (hE : EvsAt W (.slice oa ps.length cap) ps) => great_any oa cap ps W hE hl (fun p hp => (hf p hp).2.2.2.2.2.2.2)
  have HGR := Lib.hid hgr
  clear h hgr hf
  go_enter Try.func6, Try.ntmps6
  go_wp2_with fail
  refine (AL.out _).mono ?_
  rintro e w1 ⟨rfl, hb1⟩
  have HE1 := Lib.hid (HE.out.below hb1 (Nat.le_refl _))
  have HB1 := Lib.hid hb1
  clear hb1
  go_wp2_with fail
  refine (HGR.out _ HE1.out).mono ?_
  rintro e w2 ⟨rfl, hb2⟩
  have HE2 := Lib.hid (HE1.out.below hb2 (Nat.le_refl _))
  have HB2 := Lib.hid (HB1.out.trans (hb2.mono HB1.out.size))
  clear hb2
  by_cases hbk : 3000 < bulk (ps.map (·.2))
  · rw [decide_eq_true hbk]
    go_wp2_with fail
    go_ret
    exact ⟨rfl, HB2.out⟩
  · rw [decide_eq_false hbk]
    by_cases h100 : (100 : Int) < (ps.length : Int)
    · go_wp2_with fail
      go_ret
      exact ⟨rfl, HB2.out⟩
    · have hpl : ps.length ≤ 100 := by omega
      have hrem : ∀ p ∈ ps, p.2.rem.length ≤ 1000000 := fun p hp => by
        have := bulk_mem (ps.map (·.2)) p.2 (List.mem_map_of_mem hp)
        omega
      have hld := load_any oa cap ps 0 size
      have HLD := Lib.hid hld
      have HREM := Lib.hid hrem
      clear hld hrem hbk
      obtain ⟨r, hr⟩ : ∃ r, r = loadOf (ps.map (·.2)) 0 size := ⟨_, rfl⟩
      have HRR := Lib.hid hr
      clear hr
      go_wp2_with fail
      have hx := HLD.out w2 HE2.out (by omega) HREM.out
      rw [← HRR.out] at hx
      refine hx.mono ?_
      rintro e w3 ⟨rfl, hb3⟩
      have HE3 := Lib.hid (HE2.out.below hb3 (Nat.le_refl _))
      have HB3 := Lib.hid (HB2.out.trans (hb3.mono HB2.out.size))
      clear hb3 hx HLD
      by_cases hok : (r.2 != 0) = true
      · go_wp2_with fail
        go_ret
        exact ⟨rfl, HB3.out⟩
      · have hok' : (r.2 != 0) = false := by simpa using hok
        clear hok
        go_wp2_with fail
        refine (sample_any 7 1 v _).mono ?_
        rintro e w4 ⟨rfl, hb4⟩
        have HB4 := Lib.hid hb4
        clear hb4
        go_wp2_with fail
        refine (sample_any 7 2 v _).mono ?_
        rintro e w5 ⟨rfl, hb5⟩
        have HB5 := Lib.hid hb5
        clear hb5
        go_wp2_with fail
        refine (sample_any 7 3 v _).mono ?_
        rintro e w6 ⟨rfl, hb6⟩
        have HB6 := Lib.hid hb6
        clear hb6
        go_wp2_with fail
        have hb7 : RowKit.Below w.heap.size w w6 := ((HB3.out.trans (HB4.out.mono HB3.out.size)).trans (HB5.out.mono (HB3.out.trans (HB4.out.mono HB3.out.size)).size)).trans (HB6.out.mono ((HB3.out.trans (HB4.out.mono HB3.out.size)).trans (HB5.out.mono (HB3.out.trans (HB4.out.mono HB3.out.size)).size)).size)
        have hb8 : RowKit.Below w.heap.size w (((w6.alloc (.cells #[.int .i64 7, .int .i64 1, .int .i64 1, .int .i64 1, .int .i64 1, .int .i64 v, .int .i64 0, .int .i64 0, .int .i64 0, .int .i64 0, .int .i64 0, .int .i64 0, .int .i64 0, .slice none 0 0] 46)).alloc (.cells #[.int .i64 7, .int .i64 2, .int .i64 1, .int .i64 2, .int .i64 0, .int .i64 v, .int .i64 0, .int .i64 0, .int .i64 0, .int .i64 0, .int .i64 0, .int .i64 0, .int .i64 0, .slice none 0 0] 46)).alloc (.cells #[.int .i64 7, .int .i64 3, .int .i64 1, .int .i64 1, .int .i64 0, .int .i64 v, .int .i64 0, .int .i64 0, .int .i64 0, .int .i64 0, .int .i64 0, .int .i64 0, .int .i64 0, .slice none 0 0] 46)) := ((hb7.alloc hb7.size _).alloc (by have := hb7.size; simp; omega) _).alloc (by have := hb7.size; simp; omega) _
        have hA : ∀ o, (((w6.alloc (.cells #[.int .i64 7, .int .i64 1, .int .i64 1, .int .i64 1, .int .i64 1, .int .i64 v, .int .i64 0, .int .i64 0, .int .i64 0, .int .i64 0, .int .i64 0, .int .i64 0, .int .i64 0, .slice none 0 0] 46)).alloc (.cells #[.int .i64 7, .int .i64 2, .int .i64 1, .int .i64 2, .int .i64 0, .int .i64 v, .int .i64 0, .int .i64 0, .int .i64 0, .int .i64 0, .int .i64 0, .int .i64 0, .int .i64 0, .slice none 0 0] 46)).alloc (.cells #[.int .i64 7, .int .i64 3, .int .i64 1, .int .i64 1, .int .i64 0, .int .i64 v, .int .i64 0, .int .i64 0, .int .i64 0, .int .i64 0, .int .i64 0, .int .i64 0, .int .i64 0, .slice none 0 0] 46)).cell? ⟨w6.heap.size, o, none⟩ = (#[.int .i64 7, .int .i64 1, .int .i64 1, .int .i64 1, .int .i64 1, .int .i64 v, .int .i64 0, .int .i64 0, .int .i64 0, .int .i64 0, .int .i64 0, .int .i64 0, .int .i64 0, .slice none 0 0] : Array Value)[o]? := fun o => by
          unfold World.cell?
          rw [Below.heap_alloc _ _ _ (by simp; omega), Below.heap_alloc _ _ _ (by simp), heap_alloc_new]
          rfl
        have hB : ∀ o, (((w6.alloc (.cells #[.int .i64 7, .int .i64 1, .int .i64 1, .int .i64 1, .int .i64 1, .int .i64 v, .int .i64 0, .int .i64 0, .int .i64 0, .int .i64 0, .int .i64 0, .int .i64 0, .int .i64 0, .slice none 0 0] 46)).alloc (.cells #[.int .i64 7, .int .i64 2, .int .i64 1, .int .i64 2, .int .i64 0, .int .i64 v, .int .i64 0, .int .i64 0, .int .i64 0, .int .i64 0, .int .i64 0, .int .i64 0, .int .i64 0, .slice none 0 0] 46)).alloc (.cells #[.int .i64 7, .int .i64 3, .int .i64 1, .int .i64 1, .int .i64 0, .int .i64 v, .int .i64 0, .int .i64 0, .int .i64 0, .int .i64 0, .int .i64 0, .int .i64 0, .int .i64 0, .slice none 0 0] 46)).cell? ⟨w6.heap.size + 1, o, none⟩ = (#[.int .i64 7, .int .i64 2, .int .i64 1, .int .i64 2, .int .i64 0, .int .i64 v, .int .i64 0, .int .i64 0, .int .i64 0, .int .i64 0, .int .i64 0, .int .i64 0, .int .i64 0, .slice none 0 0] : Array Value)[o]? := fun o => by
          unfold World.cell?
          rw [Below.heap_alloc _ _ _ (by simp), show w6.heap.size + 1 = (w6.alloc (.cells #[.int .i64 7, .int .i64 1, .int .i64 1, .int .i64 1, .int .i64 1, .int .i64 v, .int .i64 0, .int .i64 0, .int .i64 0, .int .i64 0, .int .i64 0, .int .i64 0, .int .i64 0, .slice none 0 0] 46)).heap.size from (World.size_alloc _ _).symm, heap_alloc_new]
          rfl
        have hC : ∀ o, (((w6.alloc (.cells #[.int .i64 7, .int .i64 1, .int .i64 1, .int .i64 1, .int .i64 1, .int .i64 v, .int .i64 0, .int .i64 0, .int .i64 0, .int .i64 0, .int .i64 0, .int .i64 0, .int .i64 0, .slice none 0 0] 46)).alloc (.cells #[.int .i64 7, .int .i64 2, .int .i64 1, .int .i64 2, .int .i64 0, .int .i64 v, .int .i64 0, .int .i64 0, .int .i64 0, .int .i64 0, .int .i64 0, .int .i64 0, .int .i64 0, .slice none 0 0] 46)).alloc (.cells #[.int .i64 7, .int .i64 3, .int .i64 1, .int .i64 1, .int .i64 0, .int .i64 v, .int .i64 0, .int .i64 0, .int .i64 0, .int .i64 0, .int .i64 0, .int .i64 0, .int .i64 0, .slice none 0 0] 46)).cell? ⟨w6.heap.size + 1 + 1, o, none⟩ = (#[.int .i64 7, .int .i64 3, .int .i64 1, .int .i64 1, .int .i64 0, .int .i64 v, .int .i64 0, .int .i64 0, .int .i64 0, .int .i64 0, .int .i64 0, .int .i64 0, .int .i64 0, .slice none 0 0] : Array Value)[o]? := fun o => by
          unfold World.cell?
          rw [show w6.heap.size + 1 + 1 = ((w6.alloc (.cells #[.int .i64 7, .int .i64 1, .int .i64 1, .int .i64 1, .int .i64 1, .int .i64 v, .int .i64 0, .int .i64 0, .int .i64 0, .int .i64 0, .int .i64 0, .int .i64 0, .int .i64 0, .slice none 0 0] 46)).alloc (.cells #[.int .i64 7, .int .i64 2, .int .i64 1, .int .i64 2, .int .i64 0, .int .i64 v, .int .i64 0, .int .i64 0, .int .i64 0, .int .i64 0, .int .i64 0, .int .i64 0, .int .i64 0, .slice none 0 0] 46)).heap.size by simp, heap_alloc_new]
          rfl
        have hz : w6.heap.size + 1 + 1 < (((w6.alloc (.cells #[.int .i64 7, .int .i64 1, .int .i64 1, .int .i64 1, .int .i64 1, .int .i64 v, .int .i64 0, .int .i64 0, .int .i64 0, .int .i64 0, .int .i64 0, .int .i64 0, .int .i64 0, .slice none 0 0] 46)).alloc (.cells #[.int .i64 7, .int .i64 2, .int .i64 1, .int .i64 2, .int .i64 0, .int .i64 v, .int .i64 0, .int .i64 0, .int .i64 0, .int .i64 0, .int .i64 0, .int .i64 0, .int .i64 0, .slice none 0 0] 46)).alloc (.cells #[.int .i64 7, .int .i64 3, .int .i64 1, .int .i64 1, .int .i64 0, .int .i64 v, .int .i64 0, .int .i64 0, .int .i64 0, .int .i64 0, .int .i64 0, .int .i64 0, .int .i64 0, .slice none 0 0] 46)).heap.size := by simp
        generalize (((w6.alloc (.cells #[.int .i64 7, .int .i64 1, .int .i64 1, .int .i64 1, .int .i64 1, .int .i64 v, .int .i64 0, .int .i64 0, .int .i64 0, .int .i64 0, .int .i64 0, .int .i64 0, .int .i64 0, .slice none 0 0] 46)).alloc (.cells #[.int .i64 7, .int .i64 2, .int .i64 1, .int .i64 2, .int .i64 0, .int .i64 v, .int .i64 0, .int .i64 0, .int .i64 0, .int .i64 0, .int .i64 0, .int .i64 0, .int .i64 0, .slice none 0 0] 46)).alloc (.cells #[.int .i64 7, .int .i64 3, .int .i64 1, .int .i64 1, .int .i64 0, .int .i64 v, .int .i64 0, .int .i64 0, .int .i64 0, .int .i64 0, .int .i64 0, .int .i64 0, .int .i64 0, .slice none 0 0] 46)) = wA at *
        generalize w6.heap.size = n0 at *
        have HEA := Lib.hid (HE.out.below hb8 (Nat.le_refl _))
        have HBA := Lib.hid hb8
        clear hb7 hb8 HB3 HB4 HB5 HB6 HE HE1 HE2 HE3 HB1 HB2 HGR AL
        obtain ⟨mo, hmo⟩ : ∃ mo : List PEv, mo = [(⟨none, 0, 0⟩, ⟨⟨7, 1⟩, 1, 1, 1, v, ⟨0, 0, 0, 0, 0, 0, 0⟩, []⟩), (⟨none, 0, 0⟩, ⟨⟨7, 2⟩, 1, 2, 0, v, ⟨0, 0, 0, 0, 0, 0, 0⟩, []⟩)] := ⟨_, rfl⟩
        obtain ⟨ms, hms⟩ : ∃ ms : List PEv, ms = ps ++ mo := ⟨_, rfl⟩
        have hml : mo.length = 2 := by rw [hmo]; rfl
        have hmsl : ms.length = ps.length + 2 := by rw [hms, List.length_append, hml]
        have hmc : mo.flatMap pcells = (#[.int .i64 7, .int .i64 1, .int .i64 1, .int .i64 1, .int .i64 1, .int .i64 v, .int .i64 0, .int .i64 0, .int .i64 0, .int .i64 0, .int .i64 0, .int .i64 0, .int .i64 0, .slice none 0 0] ++ #[.int .i64 7, .int .i64 2, .int .i64 1, .int .i64 2, .int .i64 0, .int .i64 v, .int .i64 0, .int .i64 0, .int .i64 0, .int .i64 0, .int .i64 0, .int .i64 0, .int .i64 0, .slice none 0 0] : Array Value).toList := by rw [hmo]; rfl
        have hmr : ∀ W, RemsAt W mo := fun W => remsAt_nil (by rw [hmo]; simp [Hdr.val]) (by rw [hmo]; simp)
        have hmq : ∀ p ∈ ms, p.2.rem.length ≤ 1000000 := by
          rw [hms]
          intro p hp
          rcases List.mem_append.1 hp with hp | hp
          · exact HREM.out p hp
          · rw [hmo] at hp
            simp only [List.mem_cons, List.not_mem_nil, or_false] at hp
            rcases hp with rfl | rfl <;> exact Nat.zero_le _
        have hlo : loadOf (ms.map (·.2)) 0 size = r := by
          rw [hms, List.map_append, HRR.out]
          refine loadOf_other fun e he k => ?_
          rw [hmo] at he
          simp only [List.map_cons, List.map_nil, List.mem_cons, List.not_mem_nil, or_false] at he
          rcases he with rfl | rfl <;> simp [isSample]
        have HMS := Lib.hid hms
        have HMC := Lib.hid hmc
        have HMR := Lib.hid hmr
        have HMQ := Lib.hid hmq
        have HLO := Lib.hid hlo
        clear hms hmc hmr hmq hlo hmo
        go_cut [13, 14] (fun s13 s14 wx => s13 = .int .i64 r.1.1 ∧ s14 = .int .i64 r.1.2 ∧ Hid (RowKit.Below wA.heap.size wA wx))
        case first =>
          have hmne : mo ≠ [] := by intro h; rw [h] at hml; simp at hml
          generalize hact : Act.mk _ _ = act
          have s0 : act.eval (.tmp 0) = .slice oa ps.length cap := by rw [← hact]; rfl
          have s1 : act.eval (.tmp 1) = .int .i64 size := by rw [← hact]; rfl
          have s10 : act.eval (.tmp 10) = .pointer (some ⟨n0, 0, none⟩) := by rw [← hact]; rfl
          have s11 : act.eval (.tmp 11) = .pointer (some ⟨n0 + 1, 0, none⟩) := by rw [← hact]; rfl
          have hsz : act.tmps.size = 114 := by rw [← hact]; rfl
          obtain ⟨K, hK⟩ : ∃ K : List (Nat × Nat × Value), K = [(1, 49, .slice oa ps.length cap), (3, 51, .agg #[.int .i64 7, .int .i64 1, .int .i64 1, .int .i64 1, .int .i64 1, .int .i64 v, .int .i64 0, .int .i64 0, .int .i64 0, .int .i64 0, .int .i64 0, .int .i64 0, .int .i64 0, .slice none 0 0]), (4, 52, .agg #[.int .i64 7, .int .i64 2, .int .i64 1, .int .i64 2, .int .i64 0, .int .i64 v, .int .i64 0, .int .i64 0, .int .i64 0, .int .i64 0, .int .i64 0, .int .i64 0, .int .i64 0, .slice none 0 0]), (7, 55, .int .i64 size), (8, 56, .tuple #[.int .i64 r.1.1, .int .i64 r.1.2, .int .i64 r.2]), (9, 47, .tuple #[.int .i64 r.1.1, .int .i64 r.1.2, .int .i64 r.2]), (10, 57, .int .i64 r.1.1), (11, 58, .int .i64 r.1.2), (12, 59, .int .i64 r.2), (13, 13, .int .i64 r.1.1), (14, 14, .int .i64 r.1.2), (15, 15, .int .i64 r.2)] := ⟨_, rfl⟩
          refine wp_region_inv (by kernel_rfl) (fun L a' w' => L.size = 16 ∧ Ag [13, 14, 15, 47, 48, 49, 50, 51, 52, 53, 54, 55, 56, 57, 58, 59] act a' ∧ Knows K L a' ∧ TwoApp wA 46 ps mo (L.getD 0 false) (L.getD 2 false) (L.getD 5 false) (L.getD 6 false) (L.getD 8 false) (a'.eval (.tmp 48)) (a'.eval (.tmp 50)) (a'.eval (.tmp 53)) (a'.eval (.tmp 54)) w') ?init ?step ?fin
          case init => exact ⟨rfl, Ag.refl _ _, Knows.none _ _ _, TwoApp.start _ _ _ _⟩
          case step =>
            intro L a' w' i hi hI
            obtain ⟨hL, hag, hk, hJ⟩ := hI
            obtain ⟨hun, o0, ho0, _⟩ := mem_ready.1 hi
            have hlt : i < 16 := (Array.getElem?_eq_some_iff.1 ho0).1
            have hun0 := getD_unlisted hun
            have hsa : a'.tmps.size = 114 := hag.size.trans hsz
            have e0 : a'.eval (.tmp 0) = .slice oa ps.length cap := (hag.out 0 (by decide)).trans s0
            have e1 : a'.eval (.tmp 1) = .int .i64 size := (hag.out 1 (by decide)).trans s1
            have e10 : a'.eval (.tmp 10) = .pointer (some ⟨n0, 0, none⟩) := (hag.out 10 (by decide)).trans s10
            have e11 : a'.eval (.tmp 11) = .pointer (some ⟨n0 + 1, 0, none⟩) := (hag.out 11 (by decide)).trans s11
            clear ho0 hun
            rcases (show i = 0 ∨ i = 1 ∨ i = 2 ∨ i = 3 ∨ i = 4 ∨ i = 5 ∨ i = 6 ∨ i = 7 ∨ i = 8 ∨ i = 9 ∨ i = 10 ∨ i = 11 ∨ i = 12 ∨ i = 13 ∨ i = 14 ∨ i = 15 by omega) with rfl | rfl | rfl | rfl | rfl | rfl | rfl | rfl | rfl | rfl | rfl | rfl | rfl | rfl | rfl | rfl
            · -- 0: new 48
              rw [hun0] at hJ
              refine step_val (d := 48) (v := .slice (some ⟨w'.heap.size, 0, none⟩) 0 0) (w' := w'.alloc (.cells #[] 46)) rfl rfl rfl (by go_simp) ⟨set_size hL, hag.put (by decide) _, (hk.put (by rw [hsa]; decide) (by rw [hK]; simp)), by rw [getD_set_at hL (by decide), getD_set_ne false (show 0 ≠ 2 by decide), getD_set_ne false (show 0 ≠ 5 by decide), getD_set_ne false (show 0 ≠ 6 by decide), getD_set_ne false (show 0 ≠ 8 by decide), eval_put_same _ (by rw [hsa]; decide), eval_put_ne _ (show 48 ≠ 50 by decide), eval_put_ne _ (show 48 ≠ 53 by decide), eval_put_ne _ (show 48 ≠ 54 by decide)]; exact hJ.mkNew hmne⟩
            · -- 1: pure 49
              refine step_val (d := 49) (w' := w') (v := .slice oa ps.length cap) rfl rfl rfl (by generalize a'.eval = ρ at e0 ⊢; go_simp) ⟨set_size hL, hag.put (by decide) _, (hk.put (by rw [hsa]; decide) (by rw [hK]; simp)), by rw [getD_set_ne false (show 1 ≠ 0 by decide), getD_set_ne false (show 1 ≠ 2 by decide), getD_set_ne false (show 1 ≠ 5 by decide), getD_set_ne false (show 1 ≠ 6 by decide), getD_set_ne false (show 1 ≠ 8 by decide), eval_put_ne _ (show 49 ≠ 48 by decide), eval_put_ne _ (show 49 ≠ 50 by decide), eval_put_ne _ (show 49 ≠ 53 by decide), eval_put_ne _ (show 49 ≠ 54 by decide)]; exact hJ⟩
            · -- 2: app1 50
              have e49 : a'.eval (.tmp 49) = .slice oa ps.length cap := hk (1, 49, _) (by rw [hK]; simp) (ready_dep hi rfl (e := ⟨1, .data⟩) (by simp) rfl)
              have hn : L.getD 0 false = true := (ready_dep hi rfl (e := ⟨0, .data⟩) (by simp) rfl)
              rw [hun0, hn] at hJ
              refine step_app_op (d := 50) pcells 14 pcells_len (by decide) pcells_one rfl rfl rfl _ _ 22 rfl wA.heap.size 46 _ 128 Try.underlying22 infoEv rfl (a'.eval (.tmp 48)) [] rfl (hJ.new rfl rfl) _ ps e49 (HEA.out.1.below pcells_len (by decide) hJ.below (Nat.le_refl _)) (by simp only [List.length_nil]; omega) (by simp only [List.length_nil]; omega) hJ.below.size ?_
              intro v2 w2 h2 hg2 _
              refine ⟨set_size hL, hag.put (by decide) _, (hk.put (by rw [hsa]; decide) (by rw [hK]; simp)), by rw [getD_set_ne false (show 2 ≠ 0 by decide), getD_set_at hL (by decide), getD_set_ne false (show 2 ≠ 5 by decide), getD_set_ne false (show 2 ≠ 6 by decide), getD_set_ne false (show 2 ≠ 8 by decide), eval_put_ne _ (show 50 ≠ 48 by decide), eval_put_same _ (by rw [hsa]; decide), eval_put_ne _ (show 50 ≠ 53 by decide), eval_put_ne _ (show 50 ≠ 54 by decide)]; rw [hn]; exact hJ.app1 h2 hg2 rfl⟩
            · -- 3: load 51
              have hA2 := cells_kept hJ.below (by omega) hA
              refine step_val (d := 51) (w' := w') (v := .agg #[.int .i64 7, .int .i64 1, .int .i64 1, .int .i64 1, .int .i64 1, .int .i64 v, .int .i64 0, .int .i64 0, .int .i64 0, .int .i64 0, .int .i64 0, .int .i64 0, .int .i64 0, .slice none 0 0]) rfl rfl rfl (by generalize a'.eval = ρ at e10 ⊢; go_simp) ⟨set_size hL, hag.put (by decide) _, (hk.put (by rw [hsa]; decide) (by rw [hK]; simp)), by rw [getD_set_ne false (show 3 ≠ 0 by decide), getD_set_ne false (show 3 ≠ 2 by decide), getD_set_ne false (show 3 ≠ 5 by decide), getD_set_ne false (show 3 ≠ 6 by decide), getD_set_ne false (show 3 ≠ 8 by decide), eval_put_ne _ (show 51 ≠ 48 by decide), eval_put_ne _ (show 51 ≠ 50 by decide), eval_put_ne _ (show 51 ≠ 53 by decide), eval_put_ne _ (show 51 ≠ 54 by decide)]; exact hJ⟩
            · -- 4: load 52
              have hB2 := cells_kept hJ.below (by omega) hB
              refine step_val (d := 52) (w' := w') (v := .agg #[.int .i64 7, .int .i64 2, .int .i64 1, .int .i64 2, .int .i64 0, .int .i64 v, .int .i64 0, .int .i64 0, .int .i64 0, .int .i64 0, .int .i64 0, .int .i64 0, .int .i64 0, .slice none 0 0]) rfl rfl rfl (by generalize a'.eval = ρ at e11 ⊢; go_simp) ⟨set_size hL, hag.put (by decide) _, (hk.put (by rw [hsa]; decide) (by rw [hK]; simp)), by rw [getD_set_ne false (show 4 ≠ 0 by decide), getD_set_ne false (show 4 ≠ 2 by decide), getD_set_ne false (show 4 ≠ 5 by decide), getD_set_ne false (show 4 ≠ 6 by decide), getD_set_ne false (show 4 ≠ 8 by decide), eval_put_ne _ (show 52 ≠ 48 by decide), eval_put_ne _ (show 52 ≠ 50 by decide), eval_put_ne _ (show 52 ≠ 53 by decide), eval_put_ne _ (show 52 ≠ 54 by decide)]; exact hJ⟩
            · -- 5: lit 53
              have e51 : a'.eval (.tmp 51) = .agg #[.int .i64 7, .int .i64 1, .int .i64 1, .int .i64 1, .int .i64 1, .int .i64 v, .int .i64 0, .int .i64 0, .int .i64 0, .int .i64 0, .int .i64 0, .int .i64 0, .int .i64 0, .slice none 0 0] := hk (3, 51, _) (by rw [hK]; simp) (ready_dep hi rfl (e := ⟨3, .data⟩) (by simp) rfl)
              have e52 : a'.eval (.tmp 52) = .agg #[.int .i64 7, .int .i64 2, .int .i64 1, .int .i64 2, .int .i64 0, .int .i64 v, .int .i64 0, .int .i64 0, .int .i64 0, .int .i64 0, .int .i64 0, .int .i64 0, .int .i64 0, .slice none 0 0] := hk (4, 52, _) (by rw [hK]; simp) (ready_dep hi rfl (e := ⟨4, .data⟩) (by simp) rfl)
              rw [hun0] at hJ
              refine step_val (d := 53) (v := .slice (some ⟨w'.heap.size, 0, none⟩) 2 2) (w' := w'.alloc (.cells (#[.int .i64 7, .int .i64 1, .int .i64 1, .int .i64 1, .int .i64 1, .int .i64 v, .int .i64 0, .int .i64 0, .int .i64 0, .int .i64 0, .int .i64 0, .int .i64 0, .int .i64 0, .slice none 0 0] ++ #[.int .i64 7, .int .i64 2, .int .i64 1, .int .i64 2, .int .i64 0, .int .i64 v, .int .i64 0, .int .i64 0, .int .i64 0, .int .i64 0, .int .i64 0, .int .i64 0, .int .i64 0, .slice none 0 0] : Array Value) 46)) rfl rfl rfl (by generalize a'.eval = ρ at e51 e52 ⊢; go_simp) ⟨set_size hL, hag.put (by decide) _, (hk.put (by rw [hsa]; decide) (by rw [hK]; simp)), by rw [getD_set_ne false (show 5 ≠ 0 by decide), getD_set_ne false (show 5 ≠ 2 by decide), getD_set_at hL (by decide), getD_set_ne false (show 5 ≠ 6 by decide), getD_set_ne false (show 5 ≠ 8 by decide), eval_put_ne _ (show 53 ≠ 48 by decide), eval_put_ne _ (show 53 ≠ 50 by decide), eval_put_same _ (by rw [hsa]; decide), eval_put_ne _ (show 53 ≠ 54 by decide)]; exact hJ.mkLit (by rw [HMC.out]; try rfl) (by omega)⟩
            · -- 6: app2 54
              have hn : L.getD 2 false = true := (ready_dep hi rfl (e := ⟨2, .data⟩) (by simp) rfl)
              have hl2 : L.getD 5 false = true := (ready_dep hi rfl (e := ⟨5, .data⟩) (by simp) rfl)
              rw [hun0, hn, hl2] at hJ
              refine step_app_op (d := 54) pcells 14 pcells_len (by decide) pcells_one rfl rfl rfl _ _ 22 rfl wA.heap.size 46 _ 128 Try.underlying22 infoEv rfl (a'.eval (.tmp 50)) ps rfl (hJ.one rfl rfl) (a'.eval (.tmp 53)) mo rfl (hJ.lit rfl rfl) (by omega) (by omega) hJ.below.size ?_
              intro v2 w2 h2 hg2 _
              refine ⟨set_size hL, hag.put (by decide) _, (hk.put (by rw [hsa]; decide) (by rw [hK]; simp)), by rw [getD_set_ne false (show 6 ≠ 0 by decide), getD_set_ne false (show 6 ≠ 2 by decide), getD_set_ne false (show 6 ≠ 5 by decide), getD_set_at hL (by decide), getD_set_ne false (show 6 ≠ 8 by decide), eval_put_ne _ (show 54 ≠ 48 by decide), eval_put_ne _ (show 54 ≠ 50 by decide), eval_put_ne _ (show 54 ≠ 53 by decide), eval_put_same _ (by rw [hsa]; decide)]; rw [hn, hl2]; exact hJ.app2 HEA.out.2 HMR.out h2 hg2⟩
            · -- 7: pure 55
              refine step_val (d := 55) (w' := w') (v := .int .i64 size) rfl rfl rfl (by generalize a'.eval = ρ at e1 ⊢; go_simp) ⟨set_size hL, hag.put (by decide) _, (hk.put (by rw [hsa]; decide) (by rw [hK]; simp)), by rw [getD_set_ne false (show 7 ≠ 0 by decide), getD_set_ne false (show 7 ≠ 2 by decide), getD_set_ne false (show 7 ≠ 5 by decide), getD_set_ne false (show 7 ≠ 6 by decide), getD_set_ne false (show 7 ≠ 8 by decide), eval_put_ne _ (show 55 ≠ 48 by decide), eval_put_ne _ (show 55 ≠ 50 by decide), eval_put_ne _ (show 55 ≠ 53 by decide), eval_put_ne _ (show 55 ≠ 54 by decide)]; exact hJ⟩
            · -- 8: call 56
              have hn2 : L.getD 6 false = true := (ready_dep hi rfl (e := ⟨6, .data⟩) (by simp) rfl)
              have hn : L.getD 2 false = true := hJ.ord hn2
              have e55 : a'.eval (.tmp 55) = .int .i64 size := hk (7, 55, _) (by rw [hK]; simp) (ready_dep hi rfl (e := ⟨7, .data⟩) (by simp) rfl)
              rw [hun0, hn2, hn] at hJ
              have hE4 := hJ.two rfl rfl
              rw [← HMS.out] at hE4
              obtain ⟨o4, c4, hv4⟩ := slAt_slice hE4.1
              rw [hv4] at hE4
              have hx := load_any o4 c4 ms 0 size w' hE4 (by omega) HMQ.out
              rw [HLO.out] at hx
              refine step_call (d := 56) (f := 18) (args := #[.slice o4 ms.length c4, .int .i64 0, .int .i64 size]) rfl rfl rfl (by have ef : a'.eval (.func 18) = .func (.func 18) #[] #[] := rfl; have ec : a'.eval (.const (.int .i64 0)) = .int .i64 0 := rfl; generalize a'.eval = ρ at ef ec hv4 e55 ⊢; go_simp) hx ?_
              rintro e w2 ⟨rfl, hb⟩
              refine ⟨_, rfl, ⟨set_size hL, hag.put (by decide) _, (hk.put (by rw [hsa]; decide) (by rw [hK]; simp)), by rw [getD_set_ne false (show 8 ≠ 0 by decide), getD_set_ne false (show 8 ≠ 2 by decide), getD_set_ne false (show 8 ≠ 5 by decide), getD_set_ne false (show 8 ≠ 6 by decide), getD_set_at hL (by decide), eval_put_ne _ (show 56 ≠ 48 by decide), eval_put_ne _ (show 56 ≠ 50 by decide), eval_put_ne _ (show 56 ≠ 53 by decide), eval_put_ne _ (show 56 ≠ 54 by decide)]; rw [hn2, hn]; exact hJ.call hb⟩⟩
            · -- 9: pure 47
              have e56 : a'.eval (.tmp 56) = .tuple #[.int .i64 r.1.1, .int .i64 r.1.2, .int .i64 r.2] := hk (8, 56, _) (by rw [hK]; simp) (ready_dep hi rfl (e := ⟨8, .data⟩) (by simp) rfl)
              refine step_val (d := 47) (w' := w') (v := .tuple #[.int .i64 r.1.1, .int .i64 r.1.2, .int .i64 r.2]) rfl rfl rfl (by generalize a'.eval = ρ at e56 ⊢; go_simp) ⟨set_size hL, hag.put (by decide) _, (hk.put (by rw [hsa]; decide) (by rw [hK]; simp)), by rw [getD_set_ne false (show 9 ≠ 0 by decide), getD_set_ne false (show 9 ≠ 2 by decide), getD_set_ne false (show 9 ≠ 5 by decide), getD_set_ne false (show 9 ≠ 6 by decide), getD_set_ne false (show 9 ≠ 8 by decide), eval_put_ne _ (show 47 ≠ 48 by decide), eval_put_ne _ (show 47 ≠ 50 by decide), eval_put_ne _ (show 47 ≠ 53 by decide), eval_put_ne _ (show 47 ≠ 54 by decide)]; exact hJ⟩
            · -- 10: pure 57
              have e47 : a'.eval (.tmp 47) = .tuple #[.int .i64 r.1.1, .int .i64 r.1.2, .int .i64 r.2] := hk (9, 47, _) (by rw [hK]; simp) (ready_dep hi rfl (e := ⟨9, .data⟩) (by simp) rfl)
              refine step_val (d := 57) (w' := w') (v := .int .i64 r.1.1) rfl rfl rfl (by generalize a'.eval = ρ at e47 ⊢; go_simp) ⟨set_size hL, hag.put (by decide) _, (hk.put (by rw [hsa]; decide) (by rw [hK]; simp)), by rw [getD_set_ne false (show 10 ≠ 0 by decide), getD_set_ne false (show 10 ≠ 2 by decide), getD_set_ne false (show 10 ≠ 5 by decide), getD_set_ne false (show 10 ≠ 6 by decide), getD_set_ne false (show 10 ≠ 8 by decide), eval_put_ne _ (show 57 ≠ 48 by decide), eval_put_ne _ (show 57 ≠ 50 by decide), eval_put_ne _ (show 57 ≠ 53 by decide), eval_put_ne _ (show 57 ≠ 54 by decide)]; exact hJ⟩
            · -- 11: pure 58
              have e47 : a'.eval (.tmp 47) = .tuple #[.int .i64 r.1.1, .int .i64 r.1.2, .int .i64 r.2] := hk (9, 47, _) (by rw [hK]; simp) (ready_dep hi rfl (e := ⟨9, .data⟩) (by simp) rfl)
              refine step_val (d := 58) (w' := w') (v := .int .i64 r.1.2) rfl rfl rfl (by generalize a'.eval = ρ at e47 ⊢; go_simp) ⟨set_size hL, hag.put (by decide) _, (hk.put (by rw [hsa]; decide) (by rw [hK]; simp)), by rw [getD_set_ne false (show 11 ≠ 0 by decide), getD_set_ne false (show 11 ≠ 2 by decide), getD_set_ne false (show 11 ≠ 5 by decide), getD_set_ne false (show 11 ≠ 6 by decide), getD_set_ne false (show 11 ≠ 8 by decide), eval_put_ne _ (show 58 ≠ 48 by decide), eval_put_ne _ (show 58 ≠ 50 by decide), eval_put_ne _ (show 58 ≠ 53 by decide), eval_put_ne _ (show 58 ≠ 54 by decide)]; exact hJ⟩
            · -- 12: pure 59
              have e47 : a'.eval (.tmp 47) = .tuple #[.int .i64 r.1.1, .int .i64 r.1.2, .int .i64 r.2] := hk (9, 47, _) (by rw [hK]; simp) (ready_dep hi rfl (e := ⟨9, .data⟩) (by simp) rfl)
              refine step_val (d := 59) (w' := w') (v := .int .i64 r.2) rfl rfl rfl (by generalize a'.eval = ρ at e47 ⊢; go_simp) ⟨set_size hL, hag.put (by decide) _, (hk.put (by rw [hsa]; decide) (by rw [hK]; simp)), by rw [getD_set_ne false (show 12 ≠ 0 by decide), getD_set_ne false (show 12 ≠ 2 by decide), getD_set_ne false (show 12 ≠ 5 by decide), getD_set_ne false (show 12 ≠ 6 by decide), getD_set_ne false (show 12 ≠ 8 by decide), eval_put_ne _ (show 59 ≠ 48 by decide), eval_put_ne _ (show 59 ≠ 50 by decide), eval_put_ne _ (show 59 ≠ 53 by decide), eval_put_ne _ (show 59 ≠ 54 by decide)]; exact hJ⟩
            · -- 13: pure 13
              have e57 : a'.eval (.tmp 57) = .int .i64 r.1.1 := hk (10, 57, _) (by rw [hK]; simp) (ready_dep hi rfl (e := ⟨10, .data⟩) (by simp) rfl)
              refine step_val (d := 13) (w' := w') (v := .int .i64 r.1.1) rfl rfl rfl (by generalize a'.eval = ρ at e57 ⊢; go_simp) ⟨set_size hL, hag.put (by decide) _, (hk.put (by rw [hsa]; decide) (by rw [hK]; simp)), by rw [getD_set_ne false (show 13 ≠ 0 by decide), getD_set_ne false (show 13 ≠ 2 by decide), getD_set_ne false (show 13 ≠ 5 by decide), getD_set_ne false (show 13 ≠ 6 by decide), getD_set_ne false (show 13 ≠ 8 by decide), eval_put_ne _ (show 13 ≠ 48 by decide), eval_put_ne _ (show 13 ≠ 50 by decide), eval_put_ne _ (show 13 ≠ 53 by decide), eval_put_ne _ (show 13 ≠ 54 by decide)]; exact hJ⟩
            · -- 14: pure 14
              have e58 : a'.eval (.tmp 58) = .int .i64 r.1.2 := hk (11, 58, _) (by rw [hK]; simp) (ready_dep hi rfl (e := ⟨11, .data⟩) (by simp) rfl)
              refine step_val (d := 14) (w' := w') (v := .int .i64 r.1.2) rfl rfl rfl (by generalize a'.eval = ρ at e58 ⊢; go_simp) ⟨set_size hL, hag.put (by decide) _, (hk.put (by rw [hsa]; decide) (by rw [hK]; simp)), by rw [getD_set_ne false (show 14 ≠ 0 by decide), getD_set_ne false (show 14 ≠ 2 by decide), getD_set_ne false (show 14 ≠ 5 by decide), getD_set_ne false (show 14 ≠ 6 by decide), getD_set_ne false (show 14 ≠ 8 by decide), eval_put_ne _ (show 14 ≠ 48 by decide), eval_put_ne _ (show 14 ≠ 50 by decide), eval_put_ne _ (show 14 ≠ 53 by decide), eval_put_ne _ (show 14 ≠ 54 by decide)]; exact hJ⟩
            · -- 15: pure 15
              have e59 : a'.eval (.tmp 59) = .int .i64 r.2 := hk (12, 59, _) (by rw [hK]; simp) (ready_dep hi rfl (e := ⟨12, .data⟩) (by simp) rfl)
              refine step_val (d := 15) (w' := w') (v := .int .i64 r.2) rfl rfl rfl (by generalize a'.eval = ρ at e59 ⊢; go_simp) ⟨set_size hL, hag.put (by decide) _, (hk.put (by rw [hsa]; decide) (by rw [hK]; simp)), by rw [getD_set_ne false (show 15 ≠ 0 by decide), getD_set_ne false (show 15 ≠ 2 by decide), getD_set_ne false (show 15 ≠ 5 by decide), getD_set_ne false (show 15 ≠ 6 by decide), getD_set_ne false (show 15 ≠ 8 by decide), eval_put_ne _ (show 15 ≠ 48 by decide), eval_put_ne _ (show 15 ≠ 50 by decide), eval_put_ne _ (show 15 ≠ 53 by decide), eval_put_ne _ (show 15 ≠ 54 by decide)]; exact hJ⟩
          case fin =>
            intro L a' w' hr hI
            obtain ⟨hL, hag, hk, hJ⟩ := hI
            have hall := all_listed_b hL rfl (by kernel_rfl) hr
            have hfin := Ag.final _ (by rw [hsz]; decide) hag
            have v49 : a'.eval (.tmp 49) = .slice oa ps.length cap := hk (1, 49, _) (by rw [hK]; simp) (hall 1 (by decide))
            have v51 : a'.eval (.tmp 51) = .agg #[.int .i64 7, .int .i64 1, .int .i64 1, .int .i64 1, .int .i64 1, .int .i64 v, .int .i64 0, .int .i64 0, .int .i64 0, .int .i64 0, .int .i64 0, .int .i64 0, .int .i64 0, .slice none 0 0] := hk (3, 51, _) (by rw [hK]; simp) (hall 3 (by decide))
            have v52 : a'.eval (.tmp 52) = .agg #[.int .i64 7, .int .i64 2, .int .i64 1, .int .i64 2, .int .i64 0, .int .i64 v, .int .i64 0, .int .i64 0, .int .i64 0, .int .i64 0, .int .i64 0, .int .i64 0, .int .i64 0, .slice none 0 0] := hk (4, 52, _) (by rw [hK]; simp) (hall 4 (by decide))
            have v55 : a'.eval (.tmp 55) = .int .i64 size := hk (7, 55, _) (by rw [hK]; simp) (hall 7 (by decide))
            have v56 : a'.eval (.tmp 56) = .tuple #[.int .i64 r.1.1, .int .i64 r.1.2, .int .i64 r.2] := hk (8, 56, _) (by rw [hK]; simp) (hall 8 (by decide))
            have v47 : a'.eval (.tmp 47) = .tuple #[.int .i64 r.1.1, .int .i64 r.1.2, .int .i64 r.2] := hk (9, 47, _) (by rw [hK]; simp) (hall 9 (by decide))
            have v57 : a'.eval (.tmp 57) = .int .i64 r.1.1 := hk (10, 57, _) (by rw [hK]; simp) (hall 10 (by decide))
            have v58 : a'.eval (.tmp 58) = .int .i64 r.1.2 := hk (11, 58, _) (by rw [hK]; simp) (hall 11 (by decide))
            have v59 : a'.eval (.tmp 59) = .int .i64 r.2 := hk (12, 59, _) (by rw [hK]; simp) (hall 12 (by decide))
            have v13 : a'.eval (.tmp 13) = .int .i64 r.1.1 := hk (13, 13, _) (by rw [hK]; simp) (hall 13 (by decide))
            have v14 : a'.eval (.tmp 14) = .int .i64 r.1.2 := hk (14, 14, _) (by rw [hK]; simp) (hall 14 (by decide))
            have v15 : a'.eval (.tmp 15) = .int .i64 r.2 := hk (15, 15, _) (by rw [hK]; simp) (hall 15 (by decide))
            have HB5 := Lib.hid hJ.below
            clear hk hag hJ hr hall hK
            simp only [List.foldl, v49, v51, v52, v55, v56, v47, v57, v58, v59, v13, v14, v15] at hfin
            generalize a'.eval (.tmp 48) = y48 at hfin
            generalize a'.eval (.tmp 50) = y50 at hfin
            generalize a'.eval (.tmp 53) = y53 at hfin
            generalize a'.eval (.tmp 54) = y54 at hfin
            subst hfin
            subst hact
            simp only [Act.put, List.setIfInBounds_toArray, List.set_cons_succ, List.set_cons_zero]
            go_step
            go_step
            go_meet
            exact ⟨rfl, rfl, HB5⟩
        case rest =>
          obtain ⟨rfl, rfl, HB10⟩ := hcut
          have hE10 : EvsAt wc (.slice oa ps.length cap) ps := HEA.out.below HB10.out (Nat.le_refl _)
          have hC2 := cells_kept HB10.out (by omega) hC
          have hz2 : n0 + 1 + 1 < wc.heap.size := by have := HB10.out.size; omega
          have HE10 := Lib.hid hE10
          have HBC := Lib.hid (HBA.out.trans (HB10.out.mono HBA.out.size))
          clear hE10 hA hB hC HEA HBA HB10 HMS HMC HMR HMQ HLO
          go_wp2_with fail
          go_loopg [70] ps.length (fun gk s70 wr => ∃ (i : Nat), s70 = .int .i64 i ∧ i ≤ ps.length ∧ ps.length - i ≤ gk ∧ Hid (RowKit.Below wc.heap.size wc wr) ∧ Hid (∀ p ∈ ps.take i, isSample 0 7 p.2 = false))
          case atStart => exact ⟨0, rfl, Nat.zero_le _, Nat.le_refl _, RowKit.Below.refl _ _, by show ∀ p ∈ ps.take 0, _; simp⟩
          case round =>
            obtain ⟨i, rfl, hi, hg, HB, HN⟩ := hrel
            by_cases hlt : i < ps.length
            · have hltz : (i : Int) < (ps.length : Int) := by omega
              have hsl : SlAt pcells wr (.slice oa ps.length cap) ps := HE10.out.1.below pcells_len (by decide) HB.out (Nat.le_refl _)
              obtain ⟨b, off, rfl⟩ := slAt_some hsl i hlt
              obtain ⟨ra, rn, rc, ev, hp, c0, c1, c2, c3, c4, c5, c6, c7, c8, c9, c10, c11, c12, c13⟩ := hsl.ev i hlt
              have HP := Lib.hid hp
              clear hp hsl
              have hbw : ∀ o, RowKit.Below wc.heap.size wc (wr.alloc o) := fun o => HB.out.alloc HB.out.size o
              have hnext : isSample 0 7 ev = false → ∀ p ∈ ps.take (i + 1), isSample 0 7 p.2 = false := fun hs p hq => by
                rw [List.take_succ_eq_append_getElem hlt] at hq
                rcases List.mem_append.1 hq with hq | hq
                · exact HN.out p hq
                · have h1 := HP.out
                  rw [List.getElem?_eq_getElem hlt] at h1
                  rw [Option.some.inj h1] at hq
                  obtain rfl : p = _ := by simpa using hq
                  exact hs
              have HBW := Lib.hid hbw
              have HNX := Lib.hid hnext
              clear hbw hnext
              by_cases k1 : (ev.kind == 1) = true
              · by_cases k2 : (ev.work == 0) = true
                · by_cases k3 : (ev.dot.node == 7) = true
                  · go_wp2_with fail
                    go_ret
                    exact ⟨rfl, HBC.out.trans ((HBW.out _).mono HBC.out.size)⟩
                  · have k3' : (ev.dot.node == 7) = false := by simpa using k3
                    have hs : Hid (isSample 0 7 ev = false) := by show _ = _; unfold isSample; rw [k3', Bool.and_false]
                    clear k3
                    go_wp2_with fail
                    go_roundg (ps.length - (i + 1))
                    case measure => omega
                    case rel => exact ⟨i + 1, by go_num, by omega, Nat.le_refl _, HBW.out _, HNX.out hs.out⟩
                · have k2' : (ev.work == 0) = false := by simpa using k2
                  have hs : Hid (isSample 0 7 ev = false) := by show _ = _; unfold isSample; rw [k2', Bool.and_false, Bool.false_and]
                  clear k2
                  go_wp2_with fail
                  go_roundg (ps.length - (i + 1))
                  case measure => omega
                  case rel => exact ⟨i + 1, by go_num, by omega, Nat.le_refl _, HBW.out _, HNX.out hs.out⟩
              · have k1' : (ev.kind == 1) = false := by simpa using k1
                have hs : Hid (isSample 0 7 ev = false) := by show _ = _; unfold isSample; rw [k1', Bool.false_and, Bool.false_and]
                clear k1
                go_wp2_with fail
                go_roundg (ps.length - (i + 1))
                case measure => omega
                case rel => exact ⟨i + 1, by go_num, by omega, Nat.le_refl _, HBW.out _, HNX.out hs.out⟩
            · have hltz : ¬ (i : Int) < (ps.length : Int) := by omega
              obtain rfl : i = ps.length := by omega
              have hE19 : EvsAt wr (.slice oa ps.length cap) ps := HE10.out.below HB.out (Nat.le_refl _)
              have hC3 := cells_kept HB.out (by omega) hC2
              have hz3 : n0 + 1 + 1 < wr.heap.size := by have := HB.out.size; omega
              have HEA := Lib.hid hE19
              have HBR := Lib.hid (HBC.out.trans (HB.out.mono HBC.out.size))
              have hN : ∀ e ∈ ps.map (·.2), isSample 0 7 e = false := fun e he => by
                obtain ⟨p, hp, rfl⟩ := List.mem_map.1 he
                exact HN.out p (by rw [List.take_length]; exact hp)
              have hwi : within size 1 16 = size := by
                by_cases h : within size 1 16 = size
                · exact h
                · have hr := HRR.out
                  unfold loadOf at hr
                  rw [if_neg h] at hr
                  rw [hr] at hok'
                  simp at hok'
              have hbd : (-1099511627776 ≤ r.1.1 ∧ r.1.1 ≤ 1099511627776) ∧ 0 ≤ r.1.2 ∧ r.1.2 ≤ 8 := by
                rw [HRR.out]
                unfold loadOf
                rw [if_pos hwi]
                exact ⟨loadN_range _ _ _ 8, loadN_nodes _ _ _ 8⟩
              obtain ⟨⟨hb1, hb2⟩, hb3, hb4⟩ := hbd
              obtain ⟨mo2, hmo⟩ : ∃ mo2 : List PEv, mo2 = [((⟨none, 0, 0⟩, sampleEv 7 3 v) : PEv)] := ⟨_, rfl⟩
              obtain ⟨ms2, hms⟩ : ∃ ms2 : List PEv, ms2 = ps ++ mo2 := ⟨_, rfl⟩
              have hml2 : mo2.length = 1 := by rw [hmo]; rfl
              have hmsl2 : ms2.length = ps.length + 1 := by rw [hms, List.length_append, hml2]
              have hmc : mo2.flatMap pcells = (#[.int .i64 7, .int .i64 3, .int .i64 1, .int .i64 1, .int .i64 0, .int .i64 v, .int .i64 0, .int .i64 0, .int .i64 0, .int .i64 0, .int .i64 0, .int .i64 0, .int .i64 0, .slice none 0 0] : Array Value).toList := by rw [hmo]; rfl
              have hmr : ∀ W, RemsAt W mo2 := fun W => remsAt_nil (by rw [hmo]; simp [Hdr.val]) (by rw [hmo]; simp [sampleEv])
              have hmq : ∀ p ∈ ms2, p.2.rem.length ≤ 1000000 := by
                rw [hms]
                intro p hp
                rcases List.mem_append.1 hp with hp | hp
                · exact HREM.out p hp
                · rw [hmo] at hp
                  simp only [List.mem_cons, List.not_mem_nil, or_false] at hp
                  rcases hp with rfl
                  exact Nat.zero_le _
              have hlo : loadOf (ms2.map (·.2)) 0 size = ((min (r.1.1 + v) 1099511627776, r.1.2 + 1), 0) := by
                rw [hms, List.map_append, hmo, HRR.out]
                exact loadOf_own v hwi hv0 hv1 hN _ rfl
              have HMS := Lib.hid hms
              have HMC := Lib.hid hmc
              have HMR := Lib.hid hmr
              have HMQ := Lib.hid hmq
              have HLO := Lib.hid hlo
              have hmne : mo2 ≠ [] := by intro h; rw [h] at hml2; simp at hml2
              clear hms hmc hmr hmq hlo hmo hE19 hN HN HB HE10 HBC hC2
              go_wp2_with fail
              go_cut [13, 14] (fun s13 s14 wx => s13 = .int .i64 (min (r.1.1 + v) 1099511627776) ∧ s14 = .int .i64 (r.1.2 + 1) ∧ Hid (RowKit.Below wr.heap.size wr wx))
              case first =>
                generalize hact : Act.mk _ _ = act
                have s0 : act.eval (.tmp 0) = .slice oa ps.length cap := by rw [← hact]; rfl
                have s1 : act.eval (.tmp 1) = .int .i64 size := by rw [← hact]; rfl
                have s12 : act.eval (.tmp 12) = .pointer (some ⟨n0 + 1 + 1, 0, none⟩) := by rw [← hact]; rfl
                have hsz : act.tmps.size = 114 := by rw [← hact]; rfl
                obtain ⟨K, hK⟩ : ∃ K : List (Nat × Nat × Value), K = [(1, 91, .slice oa ps.length cap), (3, 93, .agg #[.int .i64 7, .int .i64 3, .int .i64 1, .int .i64 1, .int .i64 0, .int .i64 v, .int .i64 0, .int .i64 0, .int .i64 0, .int .i64 0, .int .i64 0, .int .i64 0, .int .i64 0, .slice none 0 0]), (6, 96, .int .i64 size), (7, 97, .tuple #[.int .i64 (min (r.1.1 + v) 1099511627776), .int .i64 (r.1.2 + 1), .int .i64 0]), (8, 89, .tuple #[.int .i64 (min (r.1.1 + v) 1099511627776), .int .i64 (r.1.2 + 1), .int .i64 0]), (9, 98, .int .i64 (min (r.1.1 + v) 1099511627776)), (10, 99, .int .i64 (r.1.2 + 1)), (11, 100, .int .i64 0), (12, 13, .int .i64 (min (r.1.1 + v) 1099511627776)), (13, 14, .int .i64 (r.1.2 + 1))] := ⟨_, rfl⟩
                refine wp_region_inv (by kernel_rfl) (fun L a' w' => L.size = 14 ∧ Ag [13, 14, 89, 90, 91, 92, 93, 94, 95, 96, 97, 98, 99, 100] act a' ∧ Knows K L a' ∧ TwoApp wr 46 ps mo2 (L.getD 0 false) (L.getD 2 false) (L.getD 4 false) (L.getD 5 false) (L.getD 7 false) (a'.eval (.tmp 90)) (a'.eval (.tmp 92)) (a'.eval (.tmp 94)) (a'.eval (.tmp 95)) w') ?init ?step ?fin
                case init => exact ⟨rfl, Ag.refl _ _, Knows.none _ _ _, TwoApp.start _ _ _ _⟩
                case step =>
                  intro L a' w' i hi hI
                  obtain ⟨hL, hag, hk, hJ⟩ := hI
                  obtain ⟨hun, o0, ho0, _⟩ := mem_ready.1 hi
                  have hlt : i < 14 := (Array.getElem?_eq_some_iff.1 ho0).1
                  have hun0 := getD_unlisted hun
                  have hsa : a'.tmps.size = 114 := hag.size.trans hsz
                  have e0 : a'.eval (.tmp 0) = .slice oa ps.length cap := (hag.out 0 (by decide)).trans s0
                  have e1 : a'.eval (.tmp 1) = .int .i64 size := (hag.out 1 (by decide)).trans s1
                  have e12 : a'.eval (.tmp 12) = .pointer (some ⟨n0 + 1 + 1, 0, none⟩) := (hag.out 12 (by decide)).trans s12
                  clear ho0 hun
                  rcases (show i = 0 ∨ i = 1 ∨ i = 2 ∨ i = 3 ∨ i = 4 ∨ i = 5 ∨ i = 6 ∨ i = 7 ∨ i = 8 ∨ i = 9 ∨ i = 10 ∨ i = 11 ∨ i = 12 ∨ i = 13 by omega) with rfl | rfl | rfl | rfl | rfl | rfl | rfl | rfl | rfl | rfl | rfl | rfl | rfl | rfl
                  · -- 0: new 90
                    rw [hun0] at hJ
                    refine step_val (d := 90) (v := .slice (some ⟨w'.heap.size, 0, none⟩) 0 0) (w' := w'.alloc (.cells #[] 46)) rfl rfl rfl (by go_simp) ⟨set_size hL, hag.put (by decide) _, (hk.put (by rw [hsa]; decide) (by rw [hK]; simp)), by rw [getD_set_at hL (by decide), getD_set_ne false (show 0 ≠ 2 by decide), getD_set_ne false (show 0 ≠ 4 by decide), getD_set_ne false (show 0 ≠ 5 by decide), getD_set_ne false (show 0 ≠ 7 by decide), eval_put_same _ (by rw [hsa]; decide), eval_put_ne _ (show 90 ≠ 92 by decide), eval_put_ne _ (show 90 ≠ 94 by decide), eval_put_ne _ (show 90 ≠ 95 by decide)]; exact hJ.mkNew hmne⟩
                  · -- 1: pure 91
                    refine step_val (d := 91) (w' := w') (v := .slice oa ps.length cap) rfl rfl rfl (by generalize a'.eval = ρ at e0 ⊢; go_simp) ⟨set_size hL, hag.put (by decide) _, (hk.put (by rw [hsa]; decide) (by rw [hK]; simp)), by rw [getD_set_ne false (show 1 ≠ 0 by decide), getD_set_ne false (show 1 ≠ 2 by decide), getD_set_ne false (show 1 ≠ 4 by decide), getD_set_ne false (show 1 ≠ 5 by decide), getD_set_ne false (show 1 ≠ 7 by decide), eval_put_ne _ (show 91 ≠ 90 by decide), eval_put_ne _ (show 91 ≠ 92 by decide), eval_put_ne _ (show 91 ≠ 94 by decide), eval_put_ne _ (show 91 ≠ 95 by decide)]; exact hJ⟩
                  · -- 2: app1 92
                    have e91 : a'.eval (.tmp 91) = .slice oa ps.length cap := hk (1, 91, _) (by rw [hK]; simp) (ready_dep hi rfl (e := ⟨1, .data⟩) (by simp) rfl)
                    have hn : L.getD 0 false = true := (ready_dep hi rfl (e := ⟨0, .data⟩) (by simp) rfl)
                    rw [hun0, hn] at hJ
                    refine step_app_op (d := 92) pcells 14 pcells_len (by decide) pcells_one rfl rfl rfl _ _ 22 rfl wr.heap.size 46 _ 128 Try.underlying22 infoEv rfl (a'.eval (.tmp 90)) [] rfl (hJ.new rfl rfl) _ ps e91 (HEA.out.1.below pcells_len (by decide) hJ.below (Nat.le_refl _)) (by simp only [List.length_nil]; omega) (by simp only [List.length_nil]; omega) hJ.below.size ?_
                    intro v2 w2 h2 hg2 _
                    refine ⟨set_size hL, hag.put (by decide) _, (hk.put (by rw [hsa]; decide) (by rw [hK]; simp)), by rw [getD_set_ne false (show 2 ≠ 0 by decide), getD_set_at hL (by decide), getD_set_ne false (show 2 ≠ 4 by decide), getD_set_ne false (show 2 ≠ 5 by decide), getD_set_ne false (show 2 ≠ 7 by decide), eval_put_ne _ (show 92 ≠ 90 by decide), eval_put_same _ (by rw [hsa]; decide), eval_put_ne _ (show 92 ≠ 94 by decide), eval_put_ne _ (show 92 ≠ 95 by decide)]; rw [hn]; exact hJ.app1 h2 hg2 rfl⟩
                  · -- 3: load 93
                    have hC4 := cells_kept hJ.below (by omega) hC3
                    refine step_val (d := 93) (w' := w') (v := .agg #[.int .i64 7, .int .i64 3, .int .i64 1, .int .i64 1, .int .i64 0, .int .i64 v, .int .i64 0, .int .i64 0, .int .i64 0, .int .i64 0, .int .i64 0, .int .i64 0, .int .i64 0, .slice none 0 0]) rfl rfl rfl (by generalize a'.eval = ρ at e12 ⊢; go_simp) ⟨set_size hL, hag.put (by decide) _, (hk.put (by rw [hsa]; decide) (by rw [hK]; simp)), by rw [getD_set_ne false (show 3 ≠ 0 by decide), getD_set_ne false (show 3 ≠ 2 by decide), getD_set_ne false (show 3 ≠ 4 by decide), getD_set_ne false (show 3 ≠ 5 by decide), getD_set_ne false (show 3 ≠ 7 by decide), eval_put_ne _ (show 93 ≠ 90 by decide), eval_put_ne _ (show 93 ≠ 92 by decide), eval_put_ne _ (show 93 ≠ 94 by decide), eval_put_ne _ (show 93 ≠ 95 by decide)]; exact hJ⟩
                  · -- 4: lit 94
                    have e93 : a'.eval (.tmp 93) = .agg #[.int .i64 7, .int .i64 3, .int .i64 1, .int .i64 1, .int .i64 0, .int .i64 v, .int .i64 0, .int .i64 0, .int .i64 0, .int .i64 0, .int .i64 0, .int .i64 0, .int .i64 0, .slice none 0 0] := hk (3, 93, _) (by rw [hK]; simp) (ready_dep hi rfl (e := ⟨3, .data⟩) (by simp) rfl)
                    rw [hun0] at hJ
                    refine step_val (d := 94) (v := .slice (some ⟨w'.heap.size, 0, none⟩) 1 1) (w' := w'.alloc (.cells #[.int .i64 7, .int .i64 3, .int .i64 1, .int .i64 1, .int .i64 0, .int .i64 v, .int .i64 0, .int .i64 0, .int .i64 0, .int .i64 0, .int .i64 0, .int .i64 0, .int .i64 0, .slice none 0 0] 46)) rfl rfl rfl (by generalize a'.eval = ρ at e93 ⊢; go_simp) ⟨set_size hL, hag.put (by decide) _, (hk.put (by rw [hsa]; decide) (by rw [hK]; simp)), by rw [getD_set_ne false (show 4 ≠ 0 by decide), getD_set_ne false (show 4 ≠ 2 by decide), getD_set_at hL (by decide), getD_set_ne false (show 4 ≠ 5 by decide), getD_set_ne false (show 4 ≠ 7 by decide), eval_put_ne _ (show 94 ≠ 90 by decide), eval_put_ne _ (show 94 ≠ 92 by decide), eval_put_same _ (by rw [hsa]; decide), eval_put_ne _ (show 94 ≠ 95 by decide)]; exact hJ.mkLit (by rw [HMC.out]; try rfl) (by omega)⟩
                  · -- 5: app2 95
                    have hn : L.getD 2 false = true := (ready_dep hi rfl (e := ⟨2, .data⟩) (by simp) rfl)
                    have hl2 : L.getD 4 false = true := (ready_dep hi rfl (e := ⟨4, .data⟩) (by simp) rfl)
                    rw [hun0, hn, hl2] at hJ
                    refine step_app_op (d := 95) pcells 14 pcells_len (by decide) pcells_one rfl rfl rfl _ _ 22 rfl wr.heap.size 46 _ 128 Try.underlying22 infoEv rfl (a'.eval (.tmp 92)) ps rfl (hJ.one rfl rfl) (a'.eval (.tmp 94)) mo2 rfl (hJ.lit rfl rfl) (by omega) (by omega) hJ.below.size ?_
                    intro v2 w2 h2 hg2 _
                    refine ⟨set_size hL, hag.put (by decide) _, (hk.put (by rw [hsa]; decide) (by rw [hK]; simp)), by rw [getD_set_ne false (show 5 ≠ 0 by decide), getD_set_ne false (show 5 ≠ 2 by decide), getD_set_ne false (show 5 ≠ 4 by decide), getD_set_at hL (by decide), getD_set_ne false (show 5 ≠ 7 by decide), eval_put_ne _ (show 95 ≠ 90 by decide), eval_put_ne _ (show 95 ≠ 92 by decide), eval_put_ne _ (show 95 ≠ 94 by decide), eval_put_same _ (by rw [hsa]; decide)]; rw [hn, hl2]; exact hJ.app2 HEA.out.2 HMR.out h2 hg2⟩
                  · -- 6: pure 96
                    refine step_val (d := 96) (w' := w') (v := .int .i64 size) rfl rfl rfl (by generalize a'.eval = ρ at e1 ⊢; go_simp) ⟨set_size hL, hag.put (by decide) _, (hk.put (by rw [hsa]; decide) (by rw [hK]; simp)), by rw [getD_set_ne false (show 6 ≠ 0 by decide), getD_set_ne false (show 6 ≠ 2 by decide), getD_set_ne false (show 6 ≠ 4 by decide), getD_set_ne false (show 6 ≠ 5 by decide), getD_set_ne false (show 6 ≠ 7 by decide), eval_put_ne _ (show 96 ≠ 90 by decide), eval_put_ne _ (show 96 ≠ 92 by decide), eval_put_ne _ (show 96 ≠ 94 by decide), eval_put_ne _ (show 96 ≠ 95 by decide)]; exact hJ⟩
                  · -- 7: call 97
                    have hn2 : L.getD 5 false = true := (ready_dep hi rfl (e := ⟨5, .data⟩) (by simp) rfl)
                    have hn : L.getD 2 false = true := hJ.ord hn2
                    have e96 : a'.eval (.tmp 96) = .int .i64 size := hk (6, 96, _) (by rw [hK]; simp) (ready_dep hi rfl (e := ⟨6, .data⟩) (by simp) rfl)
                    rw [hun0, hn2, hn] at hJ
                    have hE4 := hJ.two rfl rfl
                    rw [← HMS.out] at hE4
                    obtain ⟨o4, c4, hv4⟩ := slAt_slice hE4.1
                    rw [hv4] at hE4
                    have hx := load_any o4 c4 ms2 0 size w' hE4 (by omega) HMQ.out
                    rw [HLO.out] at hx
                    refine step_call (d := 97) (f := 18) (args := #[.slice o4 ms2.length c4, .int .i64 0, .int .i64 size]) rfl rfl rfl (by have ef : a'.eval (.func 18) = .func (.func 18) #[] #[] := rfl; have ec : a'.eval (.const (.int .i64 0)) = .int .i64 0 := rfl; generalize a'.eval = ρ at ef ec hv4 e96 ⊢; go_simp) hx ?_
                    rintro e w2 ⟨rfl, hb⟩
                    refine ⟨_, rfl, ⟨set_size hL, hag.put (by decide) _, (hk.put (by rw [hsa]; decide) (by rw [hK]; simp)), by rw [getD_set_ne false (show 7 ≠ 0 by decide), getD_set_ne false (show 7 ≠ 2 by decide), getD_set_ne false (show 7 ≠ 4 by decide), getD_set_ne false (show 7 ≠ 5 by decide), getD_set_at hL (by decide), eval_put_ne _ (show 97 ≠ 90 by decide), eval_put_ne _ (show 97 ≠ 92 by decide), eval_put_ne _ (show 97 ≠ 94 by decide), eval_put_ne _ (show 97 ≠ 95 by decide)]; rw [hn2, hn]; exact hJ.call hb⟩⟩
                  · -- 8: pure 89
                    have e97 : a'.eval (.tmp 97) = .tuple #[.int .i64 (min (r.1.1 + v) 1099511627776), .int .i64 (r.1.2 + 1), .int .i64 0] := hk (7, 97, _) (by rw [hK]; simp) (ready_dep hi rfl (e := ⟨7, .data⟩) (by simp) rfl)
                    refine step_val (d := 89) (w' := w') (v := .tuple #[.int .i64 (min (r.1.1 + v) 1099511627776), .int .i64 (r.1.2 + 1), .int .i64 0]) rfl rfl rfl (by generalize a'.eval = ρ at e97 ⊢; go_simp) ⟨set_size hL, hag.put (by decide) _, (hk.put (by rw [hsa]; decide) (by rw [hK]; simp)), by rw [getD_set_ne false (show 8 ≠ 0 by decide), getD_set_ne false (show 8 ≠ 2 by decide), getD_set_ne false (show 8 ≠ 4 by decide), getD_set_ne false (show 8 ≠ 5 by decide), getD_set_ne false (show 8 ≠ 7 by decide), eval_put_ne _ (show 89 ≠ 90 by decide), eval_put_ne _ (show 89 ≠ 92 by decide), eval_put_ne _ (show 89 ≠ 94 by decide), eval_put_ne _ (show 89 ≠ 95 by decide)]; exact hJ⟩
                  · -- 9: pure 98
                    have e89 : a'.eval (.tmp 89) = .tuple #[.int .i64 (min (r.1.1 + v) 1099511627776), .int .i64 (r.1.2 + 1), .int .i64 0] := hk (8, 89, _) (by rw [hK]; simp) (ready_dep hi rfl (e := ⟨8, .data⟩) (by simp) rfl)
                    refine step_val (d := 98) (w' := w') (v := .int .i64 (min (r.1.1 + v) 1099511627776)) rfl rfl rfl (by generalize a'.eval = ρ at e89 ⊢; go_simp) ⟨set_size hL, hag.put (by decide) _, (hk.put (by rw [hsa]; decide) (by rw [hK]; simp)), by rw [getD_set_ne false (show 9 ≠ 0 by decide), getD_set_ne false (show 9 ≠ 2 by decide), getD_set_ne false (show 9 ≠ 4 by decide), getD_set_ne false (show 9 ≠ 5 by decide), getD_set_ne false (show 9 ≠ 7 by decide), eval_put_ne _ (show 98 ≠ 90 by decide), eval_put_ne _ (show 98 ≠ 92 by decide), eval_put_ne _ (show 98 ≠ 94 by decide), eval_put_ne _ (show 98 ≠ 95 by decide)]; exact hJ⟩
                  · -- 10: pure 99
                    have e89 : a'.eval (.tmp 89) = .tuple #[.int .i64 (min (r.1.1 + v) 1099511627776), .int .i64 (r.1.2 + 1), .int .i64 0] := hk (8, 89, _) (by rw [hK]; simp) (ready_dep hi rfl (e := ⟨8, .data⟩) (by simp) rfl)
                    refine step_val (d := 99) (w' := w') (v := .int .i64 (r.1.2 + 1)) rfl rfl rfl (by generalize a'.eval = ρ at e89 ⊢; go_simp) ⟨set_size hL, hag.put (by decide) _, (hk.put (by rw [hsa]; decide) (by rw [hK]; simp)), by rw [getD_set_ne false (show 10 ≠ 0 by decide), getD_set_ne false (show 10 ≠ 2 by decide), getD_set_ne false (show 10 ≠ 4 by decide), getD_set_ne false (show 10 ≠ 5 by decide), getD_set_ne false (show 10 ≠ 7 by decide), eval_put_ne _ (show 99 ≠ 90 by decide), eval_put_ne _ (show 99 ≠ 92 by decide), eval_put_ne _ (show 99 ≠ 94 by decide), eval_put_ne _ (show 99 ≠ 95 by decide)]; exact hJ⟩
                  · -- 11: pure 100
                    have e89 : a'.eval (.tmp 89) = .tuple #[.int .i64 (min (r.1.1 + v) 1099511627776), .int .i64 (r.1.2 + 1), .int .i64 0] := hk (8, 89, _) (by rw [hK]; simp) (ready_dep hi rfl (e := ⟨8, .data⟩) (by simp) rfl)
                    refine step_val (d := 100) (w' := w') (v := .int .i64 0) rfl rfl rfl (by generalize a'.eval = ρ at e89 ⊢; go_simp) ⟨set_size hL, hag.put (by decide) _, (hk.put (by rw [hsa]; decide) (by rw [hK]; simp)), by rw [getD_set_ne false (show 11 ≠ 0 by decide), getD_set_ne false (show 11 ≠ 2 by decide), getD_set_ne false (show 11 ≠ 4 by decide), getD_set_ne false (show 11 ≠ 5 by decide), getD_set_ne false (show 11 ≠ 7 by decide), eval_put_ne _ (show 100 ≠ 90 by decide), eval_put_ne _ (show 100 ≠ 92 by decide), eval_put_ne _ (show 100 ≠ 94 by decide), eval_put_ne _ (show 100 ≠ 95 by decide)]; exact hJ⟩
                  · -- 12: pure 13
                    have e98 : a'.eval (.tmp 98) = .int .i64 (min (r.1.1 + v) 1099511627776) := hk (9, 98, _) (by rw [hK]; simp) (ready_dep hi rfl (e := ⟨9, .data⟩) (by simp) rfl)
                    refine step_val (d := 13) (w' := w') (v := .int .i64 (min (r.1.1 + v) 1099511627776)) rfl rfl rfl (by generalize a'.eval = ρ at e98 ⊢; go_simp) ⟨set_size hL, hag.put (by decide) _, (hk.put (by rw [hsa]; decide) (by rw [hK]; simp)), by rw [getD_set_ne false (show 12 ≠ 0 by decide), getD_set_ne false (show 12 ≠ 2 by decide), getD_set_ne false (show 12 ≠ 4 by decide), getD_set_ne false (show 12 ≠ 5 by decide), getD_set_ne false (show 12 ≠ 7 by decide), eval_put_ne _ (show 13 ≠ 90 by decide), eval_put_ne _ (show 13 ≠ 92 by decide), eval_put_ne _ (show 13 ≠ 94 by decide), eval_put_ne _ (show 13 ≠ 95 by decide)]; exact hJ⟩
                  · -- 13: pure 14
                    have e99 : a'.eval (.tmp 99) = .int .i64 (r.1.2 + 1) := hk (10, 99, _) (by rw [hK]; simp) (ready_dep hi rfl (e := ⟨10, .data⟩) (by simp) rfl)
                    refine step_val (d := 14) (w' := w') (v := .int .i64 (r.1.2 + 1)) rfl rfl rfl (by generalize a'.eval = ρ at e99 ⊢; go_simp) ⟨set_size hL, hag.put (by decide) _, (hk.put (by rw [hsa]; decide) (by rw [hK]; simp)), by rw [getD_set_ne false (show 13 ≠ 0 by decide), getD_set_ne false (show 13 ≠ 2 by decide), getD_set_ne false (show 13 ≠ 4 by decide), getD_set_ne false (show 13 ≠ 5 by decide), getD_set_ne false (show 13 ≠ 7 by decide), eval_put_ne _ (show 14 ≠ 90 by decide), eval_put_ne _ (show 14 ≠ 92 by decide), eval_put_ne _ (show 14 ≠ 94 by decide), eval_put_ne _ (show 14 ≠ 95 by decide)]; exact hJ⟩
                case fin =>
                  intro L a' w' hr hI
                  obtain ⟨hL, hag, hk, hJ⟩ := hI
                  have hall := all_listed_b hL rfl (by kernel_rfl) hr
                  have hfin := Ag.final _ (by rw [hsz]; decide) hag
                  have v91 : a'.eval (.tmp 91) = .slice oa ps.length cap := hk (1, 91, _) (by rw [hK]; simp) (hall 1 (by decide))
                  have v93 : a'.eval (.tmp 93) = .agg #[.int .i64 7, .int .i64 3, .int .i64 1, .int .i64 1, .int .i64 0, .int .i64 v, .int .i64 0, .int .i64 0, .int .i64 0, .int .i64 0, .int .i64 0, .int .i64 0, .int .i64 0, .slice none 0 0] := hk (3, 93, _) (by rw [hK]; simp) (hall 3 (by decide))
                  have v96 : a'.eval (.tmp 96) = .int .i64 size := hk (6, 96, _) (by rw [hK]; simp) (hall 6 (by decide))
                  have v97 : a'.eval (.tmp 97) = .tuple #[.int .i64 (min (r.1.1 + v) 1099511627776), .int .i64 (r.1.2 + 1), .int .i64 0] := hk (7, 97, _) (by rw [hK]; simp) (hall 7 (by decide))
                  have v89 : a'.eval (.tmp 89) = .tuple #[.int .i64 (min (r.1.1 + v) 1099511627776), .int .i64 (r.1.2 + 1), .int .i64 0] := hk (8, 89, _) (by rw [hK]; simp) (hall 8 (by decide))
                  have v98 : a'.eval (.tmp 98) = .int .i64 (min (r.1.1 + v) 1099511627776) := hk (9, 98, _) (by rw [hK]; simp) (hall 9 (by decide))
                  have v99 : a'.eval (.tmp 99) = .int .i64 (r.1.2 + 1) := hk (10, 99, _) (by rw [hK]; simp) (hall 10 (by decide))
                  have v100 : a'.eval (.tmp 100) = .int .i64 0 := hk (11, 100, _) (by rw [hK]; simp) (hall 11 (by decide))
                  have v13 : a'.eval (.tmp 13) = .int .i64 (min (r.1.1 + v) 1099511627776) := hk (12, 13, _) (by rw [hK]; simp) (hall 12 (by decide))
                  have v14 : a'.eval (.tmp 14) = .int .i64 (r.1.2 + 1) := hk (13, 14, _) (by rw [hK]; simp) (hall 13 (by decide))
                  have HB5 := Lib.hid hJ.below
                  clear hk hag hJ hr hall hK
                  simp only [List.foldl, v91, v93, v96, v97, v89, v98, v99, v100, v13, v14] at hfin
                  generalize a'.eval (.tmp 90) = y90 at hfin
                  generalize a'.eval (.tmp 92) = y92 at hfin
                  generalize a'.eval (.tmp 94) = y94 at hfin
                  generalize a'.eval (.tmp 95) = y95 at hfin
                  subst hfin
                  subst hact
                  simp only [Act.put, List.setIfInBounds_toArray, List.set_cons_succ, List.set_cons_zero]
                  go_step
                  go_step
                  go_meet
                  exact ⟨rfl, rfl, HB5⟩
              case rest =>
                obtain ⟨rfl, rfl, HB19⟩ := hcut
                go_wp2_with fail
                go_ret
                exact ⟨rfl, HBR.out.trans (HB19.out.mono HBR.out.size)⟩
end Go.Proofs.Ytfbbafmklahmmaa
