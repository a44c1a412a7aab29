/-
  The law RankOrders walked: it returns true, and turns nothing that was there.
-/
import Derived.Test.YtlohmmhdfabjiaaShares
namespace Go.Proofs.Ytlohmmhdfabjiaa
open Go.Shelf Go.RowKit Go.Lib Go.Sort
set_option linter.unusedVariables false
theorem owns_none_made {e : Nat} (W : World) (n : Nat) (hn : W.heap.size = n) : Owns icells 1 n e (W.alloc (.cells #[] e)) (.slice (some ⟨n, 0, none⟩) 0 0) [] := by
  subst hn
  exact World.ownsRow_made W #[] 0 (Nat.le_refl _) (by decide) rfl
set_option maxRecDepth 100000 in
set_option maxHeartbeats 8000000 in
theorem lawOrders (oa : Option Addr) (cap : Nat) (nodes : List Int) (work salt : Int) (w : World) (h : SlAt icells w (.slice oa nodes.length cap) nodes) (h0 : 0 ≤ salt) (h1 : salt < 18446744073709551616) :
    Calls Try.prog 5 #[.slice oa nodes.length cap, .int .i64 work, .int .u64 salt] w fun e w' => e = .returned (.bool true) ∧ RowKit.Below w.heap.size w w' := by
  have HE := Lib.hid h
  have AL := Lib.hid alive_any
  clear h
  go_enter Try.func5, Try.ntmps5
  go_wp2_with fail
  refine (AL.out _).mono ?_
  rintro e w1 ⟨rfl, hb1⟩
  have HE2 := Lib.hid (HE.out.below icells_len (by decide) hb1 (Nat.le_refl _))
  have HB2 := Lib.hid hb1
  clear hb1
  by_cases h200 : (200 : Int) < (nodes.length : Int)
  · go_wp2_with fail
    go_ret
    exact ⟨rfl, HB2.out⟩
  have hnl : nodes.length ≤ 200 := by omega
  generalize w1 = w2 at *
  go_wp2_with (at_builtin; go_loud (refine wpList_appD icells 1 icells_len (by decide) icells_one _ rfl _ _ 22 rfl w2.heap.size 3 _ 8 Try.underlying22 infoInt rfl _ [] rfl ?h1 _ nodes rfl ?h2 ?h3 ?h4 ?h5 ?_))
  case h1 => exact owns_none_made _ _ rfl
  case h2 => exact HE2.out.below icells_len (by decide) ((Below.refl _ _).alloc (Nat.le_refl _) _) (Nat.le_refl _)
  case h3 => simp only [List.length_nil]; omega
  case h4 => simp only [List.length_nil]; omega
  case h5 => simp
  intro v3 w3 h3 hg3 hv3 hd3
  obtain ⟨o3, c3, rfl⟩ := slAt_slice h3.at
  have hb23 : Below w2.heap.size w2 w3 := ((Below.refl _ _).alloc (Nat.le_refl _) _).grown hg3 (by simp) fun k hk => by simp [Value.ownBlock] at hk; omega
  have HE3 := Lib.hid (HE2.out.below icells_len (by decide) hb23 (Nat.le_refl _))
  have HB3 := Lib.hid (HB2.out.trans (hb23.mono HB2.out.size))
  have HI3 := Lib.hid h3.at
  clear h3 hg3 hv3 hd3 hb23 HE2 HB2
  have ho4 := owner_any o3 c3 nodes work salt h0 h1 w3 HI3.out (by omega)
  have HO4 := Lib.hid ho4
  clear ho4
  go_wp2_with fail
  refine HO4.out.mono ?_
  rintro e w4 ⟨l4, hr4, rfl, hb4⟩
  have HE4 := Lib.hid (HE3.out.below icells_len (by decide) hb4 (Nat.le_refl _))
  have HI4 := Lib.hid (HI3.out.below icells_len (by decide) hb4 (Nat.le_refl _))
  have HB4 := Lib.hid (HB3.out.trans (hb4.mono HB3.out.size))
  have HK4 := Lib.hid hr4
  have ho5 := refOwner_any oa cap nodes work salt h0 h1 w4 HE4.out (by omega)
  have HO5 := Lib.hid ho5
  clear hr4 hb4 ho5 HO4 HE3 HI3 HB3
  obtain ⟨x, ee, hxe⟩ : ∃ x ee, own l4 = (x, ee) := ⟨_, _, rfl⟩
  have HXE := Lib.hid hxe
  rw [hxe]
  clear hxe
  simp only
  go_wp2_with fail
  refine HO5.out.mono ?_
  rintro e w5 ⟨l5, hr5, rfl, hb5⟩
  obtain rfl : l5 = l4 := hr5.eq HK4.out rfl
  have HE5 := Lib.hid (HE4.out.below icells_len (by decide) hb5 (Nat.le_refl _))
  have HI5 := Lib.hid (HI4.out.below icells_len (by decide) hb5 (Nat.le_refl _))
  have HB5 := Lib.hid (HB4.out.trans (hb5.mono HB4.out.size))
  have ho6 := order_any o3 c3 nodes work salt h0 h1 w5 HI5.out (by omega)
  have HO6 := Lib.hid ho6
  rw [HXE.out]
  clear hr5 hb5 ho6 HO5 HE4 HI4 HB4 HXE
  simp only
  go_wp2_with fail
  refine HO6.out.mono ?_
  rintro e w6 ⟨o6, c6, l6, rfl, hr6, hs6, hb6⟩
  have HE6 := Lib.hid (HE5.out.below icells_len (by decide) hb6 (Nat.le_refl _))
  have HI6 := Lib.hid (HI5.out.below icells_len (by decide) hb6 (Nat.le_refl _))
  have HB6 := Lib.hid (HB5.out.trans (hb6.mono HB5.out.size))
  have HS6 := Lib.hid hs6
  have HK6 := Lib.hid hr6
  have ho7 := refOrder_any oa cap nodes work salt h0 h1 w6 HE6.out (by omega)
  have HO7 := Lib.hid ho7
  clear hr6 hs6 hb6 ho7 HO6 HE5 HI5 HB5 HK4
  go_wp2_with fail
  refine HO7.out.mono ?_
  rintro e w7 ⟨o7, c7, l7, rfl, hr7, hs7, hb7⟩
  obtain rfl : l7 = l6 := hr7.eq HK6.out rfl
  have HE7 := Lib.hid (HE6.out.below icells_len (by decide) hb7 (Nat.le_refl _))
  have HI7 := Lib.hid (HI6.out.below icells_len (by decide) hb7 (Nat.le_refl _))
  have HB7 := Lib.hid (HB6.out.trans (hb7.mono HB6.out.size))
  have hi7 := ints_any o6 o7 c6 c7 l7 w7 (HS6.out.below icells_len (by decide) hb7 (Nat.le_refl _)) hs7 (by have := hr7.len; omega)
  have HI7' := Lib.hid hi7
  clear hr7 hs7 hb7 hi7 HO7 HE6 HI6 HB6 HS6 HK6
  go_wp2_with fail
  refine HI7'.out.mono ?_
  rintro e w8 ⟨rfl, q8, rfl⟩
  have HE8 := Lib.hid (HE7.out.below icells_len (by decide) (below_drewN w7 q8) (Nat.le_refl _))
  have HI8 := Lib.hid (HI7.out.below icells_len (by decide) (below_drewN w7 q8) (Nat.le_refl _))
  have HB8 := Lib.hid (HB7.out.trans ((below_drewN w7 q8).mono HB7.out.size))
  clear HI7' HE7 HI7 HB7
  generalize w7.drewN q8 = w8 at *
  have ho9 := share_any o3 c3 nodes salt h0 h1 w8 HI8.out (by omega)
  have HO9 := Lib.hid ho9
  clear ho9
  go_wp2_with fail
  refine HO9.out.mono ?_
  rintro e w9 ⟨va, rfl, hsa, hb9⟩
  have HE9 := Lib.hid (HE8.out.below icells_len (by decide) hb9 (Nat.le_refl _))
  have HI9 := Lib.hid (HI8.out.below icells_len (by decide) hb9 (Nat.le_refl _))
  have HB9 := Lib.hid (HB8.out.trans (hb9.mono HB8.out.size))
  have HSA := Lib.hid hsa
  have ho10 := refShare_any oa cap nodes salt h0 h1 w9 HE9.out (by omega)
  have HO10 := Lib.hid ho10
  clear hsa hb9 ho10 HO9 HE8 HI8 HB8
  simp only [eight]
  go_wp2_with fail
  refine HO10.out.mono ?_
  rintro e w10 ⟨vb, rfl, hsb, hb10⟩
  have HE10 := Lib.hid (HE9.out.below icells_len (by decide) hb10 (Nat.le_refl _))
  have HI10 := Lib.hid (HI9.out.below icells_len (by decide) hb10 (Nat.le_refl _))
  have HB10 := Lib.hid (HB9.out.trans (hb10.mono HB9.out.size))
  have HSA2 := Lib.hid (fun n hn => (HSA.out n hn).below icells_len (by decide) hb10 (Nat.le_refl _))
  have HSB := Lib.hid hsb
  clear hsb hb10 HO10 HE9 HI9 HB9 HSA
  simp only [eight]
  have hone : ∀ (vs : Nat → Value), (∀ n, n < 8 → SlAt icells w10 (vs n) (shareTo nodes salt n 8)) → ∀ n, n < 8 → (vs n).oneCell' = true := fun vs hs n hn => by
    obtain ⟨oa, cap, hv⟩ := slAt_slice (hs n hn)
    rw [hv]; rfl
  have hz0 : ((w10.alloc (.cells #[.slice none 0 0, .slice none 0 0, .slice none 0 0, .slice none 0 0, .slice none 0 0, .slice none 0 0, .slice none 0 0, .slice none 0 0] 39)).alloc (.cells #[.slice none 0 0, .slice none 0 0, .slice none 0 0, .slice none 0 0, .slice none 0 0, .slice none 0 0, .slice none 0 0, .slice none 0 0] 39)).heap[w10.heap.size]? = some (.cells #[.slice none 0 0, .slice none 0 0, .slice none 0 0, .slice none 0 0, .slice none 0 0, .slice none 0 0, .slice none 0 0, .slice none 0 0] 39) := by rw [Below.heap_alloc _ _ _ (by simp)]; exact heap_alloc_new _ _
  have hz1 : ((w10.alloc (.cells #[.slice none 0 0, .slice none 0 0, .slice none 0 0, .slice none 0 0, .slice none 0 0, .slice none 0 0, .slice none 0 0, .slice none 0 0] 39)).alloc (.cells #[.slice none 0 0, .slice none 0 0, .slice none 0 0, .slice none 0 0, .slice none 0 0, .slice none 0 0, .slice none 0 0, .slice none 0 0] 39)).heap[w10.heap.size + 1]? = some (.cells #[.slice none 0 0, .slice none 0 0, .slice none 0 0, .slice none 0 0, .slice none 0 0, .slice none 0 0, .slice none 0 0, .slice none 0 0] 39) := by
    have := heap_alloc_new (w10.alloc (.cells #[.slice none 0 0, .slice none 0 0, .slice none 0 0, .slice none 0 0, .slice none 0 0, .slice none 0 0, .slice none 0 0, .slice none 0 0] 39)) (.cells #[.slice none 0 0, .slice none 0 0, .slice none 0 0, .slice none 0 0, .slice none 0 0, .slice none 0 0, .slice none 0 0, .slice none 0 0] 39)
    rw [World.size_alloc] at this
    exact this
  have hbw : Below w10.heap.size w10 ((w10.alloc (.cells #[.slice none 0 0, .slice none 0 0, .slice none 0 0, .slice none 0 0, .slice none 0 0, .slice none 0 0, .slice none 0 0, .slice none 0 0] 39)).alloc (.cells #[.slice none 0 0, .slice none 0 0, .slice none 0 0, .slice none 0 0, .slice none 0 0, .slice none 0 0, .slice none 0 0, .slice none 0 0] 39)) := ((Below.refl _ _).alloc (Nat.le_refl _) _).alloc (by simp) _
  obtain ⟨W1, W2, W3, W4, W5, W6, W7, W8, g0, g1, g2, g3, g4, g5, g6, g7, e8, k8, b8⟩ := stores8 hz0 rfl (hone va HSA2.out)
  have hz2 := (k8 (w10.heap.size + 1) (by omega)).trans hz1
  obtain ⟨V1, V2, V3, V4, V5, V6, V7, V8, j0, j1, j2, j3, j4, j5, j6, j7, d8, l8, c8⟩ := stores8 hz2 rfl (hone vb HSB.out)
  have hbV : Below w10.heap.size w10 V8 := (hbw.trans (b8 _ (Nat.le_refl _))).trans (c8 _ (Nat.le_succ _))
  have hca : ∀ n, n < 8 → V8.cell? ⟨w10.heap.size, n, none⟩ = some (va n) := fun n hn => by
    rw [cell_of_row _ _ n _ _ _ ((l8 w10.heap.size (by omega)).trans e8)]; exact eight_at va n hn
  have hcb : ∀ n, n < 8 → V8.cell? ⟨w10.heap.size + 1, n, none⟩ = some (vb n) := fun n hn => by
    rw [cell_of_row _ _ n _ _ _ d8]; exact eight_at vb n hn
  have HE11 := Lib.hid (HE10.out.below icells_len (by decide) hbV (Nat.le_refl _))
  have HI11 := Lib.hid (HI10.out.below icells_len (by decide) hbV (Nat.le_refl _))
  have HB11 := Lib.hid (HB10.out.trans (hbV.mono HB10.out.size))
  have HSA3 := Lib.hid (fun n hn => (HSA2.out n hn).below icells_len (by decide) hbV (Nat.le_refl _))
  have HSB3 := Lib.hid (fun n hn => (HSB.out n hn).below icells_len (by decide) hbV (Nat.le_refl _))
  have HCA := Lib.hid hca
  have HCB := Lib.hid hcb
  clear hone hz0 hz1 hbw hz2 hbV hca hcb e8 k8 b8 d8 l8 c8 HSA2 HSB HE10 HI10 HB10
  go_wp2_with fail
  go_loopg [63] 8 (fun gk s63 wr => ∃ (i q : Nat), s63 = .int .i64 i ∧ i ≤ 8 ∧ 8 - i ≤ gk ∧ wr = V8.drewN q)
  case atStart => exact ⟨0, 0, rfl, Nat.zero_le _, Nat.le_refl _, rfl⟩
  case round =>
    obtain ⟨i, q, rfl, hi, hg, rfl⟩ := hrel
    by_cases hlt : i < 8
    · have hltz : (i : Int) < 8 := by omega
      have ca := HCA.out i hlt
      have cb := HCB.out i hlt
      obtain ⟨oA, cA, hA⟩ := slAt_slice (HSA3.out i hlt)
      obtain ⟨oB, cB, hB⟩ := slAt_slice (HSB3.out i hlt)
      have hsA := HSA3.out i hlt
      have hsB := HSB3.out i hlt
      rw [hA] at ca hsA
      rw [hB] at cb hsB
      have hin := fun n => ints_any oA oB cA cB (shareTo nodes salt i 8) ((V8.drewN q).drewN n) (hsA.below icells_len (by decide) ((below_drewN V8 q).trans ((below_drewN _ n).mono (Nat.le_refl _))) (Nat.le_refl _)) (hsB.below icells_len (by decide) ((below_drewN V8 q).trans ((below_drewN _ n).mono (Nat.le_refl _))) (Nat.le_refl _)) (by have := shareTo_len nodes salt i 8; omega)
      have HIN := Lib.hid hin
      have ca' : (V8.drewN q).cell? ⟨w10.heap.size, i, none⟩ = _ := ca
      have cb' : (V8.drewN q).cell? ⟨w10.heap.size + 1, i, none⟩ = _ := cb
      clear hA hB hsA hsB hin ca cb
      generalize (shareTo nodes salt i 8).length = m at *
      generalize hwq : V8.drewN q = wq at *
      have HWQ := Lib.hid hwq
      clear hwq
      go_wp2_with fail
      go_quiet (first | (go_at_call 9; refine Calls.quiet_of (HIN.out _)))
      go_wp2_with fail
      go_roundg (8 - (i + 1))
      case measure => omega
      case rel => exact ⟨i + 1, q + nq, by go_num, by omega, Nat.le_refl _, by rw [← HWQ.out]; exact World.drewN_drewN _ _ _⟩
    · have hltz : ¬ (i : Int) < 8 := by omega
      have hE := HE11.out.below icells_len (by decide) (below_drewN V8 q) (Nat.le_refl _)
      have hI := HI11.out.below icells_len (by decide) (below_drewN V8 q) (Nat.le_refl _)
      have hin := ints_any o3 oa c3 cap nodes (V8.drewN q) hI hE (by omega)
      have HIN := Lib.hid hin
      have HB12 := Lib.hid (HB11.out.trans ((below_drewN V8 q).mono HB11.out.size))
      clear hE hI hin
      go_wp2_with fail
      refine HIN.out.mono ?_
      rintro e w12 ⟨rfl, q12, rfl⟩
      have HB13 := Lib.hid (HB12.out.trans ((below_drewN _ q12).mono HB12.out.size))
      clear HIN
      go_wp2_with fail
      go_ret
      exact ⟨rfl, by first | exact HB13.out | (have := HB13.out; rwa [World.drewN_drewN] at this)⟩
end Go.Proofs.Ytlohmmhdfabjiaa
