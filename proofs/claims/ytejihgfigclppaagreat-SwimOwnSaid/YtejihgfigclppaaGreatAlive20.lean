/-
  The law's example, walked: it holds.
-/
import Derived.Test.YtejihgfigclppaaGreatLaw20
namespace Go.Proofs.YtejihgfigclppaaGreat
open Go.Shelf Go.RowKit Go.Lib Go.Sort
set_option linter.unusedVariables false
set_option linter.unusedSimpArgs false
set_option maxRecDepth 100000 in
set_option maxHeartbeats 32000000 in
theorem alive20_any (w : World) : Calls Tryz.prog 9 #[] w fun e w' => e = .returned (.bool true) ∧ Below w.heap.size w w' := by
  obtain ⟨d0, d1, d2, d3, d4, d5, d6, l1, l2, l3, l4, l5, l6, X⟩ := exA
  have hnew := newD_good 0 0 ⟨1, 0, 2⟩ 1 w (by decide) (by decide)
  rw [X.s0] at hnew
  have HNEW := Lib.hid hnew
  have X := Lib.hid X
  have hword := fun W => word_any 1 W
  have HWORD := Lib.hid hword
  clear hnew hword
  go_enter Tryz.func9, Tryz.ntmps9
  go_wp2_with fail
  refine HNEW.out.mono ?_
  rintro e w1 ⟨M0, rfl, hD0, hO0, hB0⟩
  have HD0 := Lib.hid hD0
  have HO0 := Lib.hid hO0
  have HB0 := Lib.hid hB0
  clear hD0 hO0 hB0 HNEW
  go_wp2_with fail
  refine (HWORD.out _).mono ?_
  rintro e w2 ⟨rfl, hb2⟩
  have HB2 := Lib.hid hb2
  clear hb2 HWORD
  go_wp2_with fail
  have hb3 := (HB2.out.alloc HB2.out.size (.cells #[.int .i64 1, .int .i64 1, .int .i64 0] 45))
  have hsl3 : SlAt Mb.cells (w2.alloc (.cells #[.int .i64 1, .int .i64 1, .int .i64 0] 45)) (.slice (some ⟨w2.heap.size, 0, none⟩) 1 1) [(⟨1, 1, 0⟩ : Mb)] := slAt_new w2 #[.int .i64 1, .int .i64 1, .int .i64 0] 45 1 1 (0, 0) [(⟨1, 1, 0⟩ : Mb)] rfl rfl (by decide)
  have hgl3 : w2.heap.size < (w2.alloc (.cells #[.int .i64 1, .int .i64 1, .int .i64 0] 45)).heap.size := by simp
  have hw12 : w1.heap.size ≤ w2.heap.size := HB2.out.size
  generalize hg3 : w2.heap.size = g3 at *
  generalize w2.alloc (.cells #[.int .i64 1, .int .i64 1, .int .i64 0] 45) = w3 at *
  have HB3 := Lib.hid hb3
  have HSL3 := Lib.hid hsl3
  clear hb3 hsl3 hg3 HB2
  refine (lping_any 1 0 5 (some ⟨g3, 0, none⟩) 1 1 w3).mono ?_
  rintro e w4 ⟨rfl, hb4⟩
  have hD4 := HD0.out.below (HB3.out.trans (hb4.mono (by have := HB3.out.size; omega)))
  have hon := onPing_any M0 d0 X.out.k0 X.out.n0 X.out.lf0 1 5 (by decide) (by rw [X.out.z0]; decide) (by decide) [(⟨1, 1, 0⟩ : Mb)] (by decide) (by decide) ⟨some ⟨g3, 0, none⟩, 1, 1⟩ w4 (HSL3.out.below Mb.cells_len (by decide) hb4 (Nat.le_refl _)) (fun b hb hm => by
    have h1 : g3 = b := Option.some.inj hb
    have h2 := HD0.out.own_lt b hm
    omega) hD4
  rw [X.out.s1, X.out.z0] at hon
  dsimp only at hon
  have HON := Lib.hid hon
  have HB4 := Lib.hid ((HB0.out.trans (HB3.out.mono HB0.out.size)).trans (hb4.mono (by have := HB3.out.size; have := HB0.out.size; omega)))
  have hs4 : w.heap.size ≤ w4.heap.size := HB4.out.size
  have hown4 : Hid (∀ k ∈ M0.own, w.heap.size ≤ k) := HO0
  clear hb4 hD4 hon HD0 HSL3 HB3 HO0 HB0
  go_wp2_with fail
  refine HON.out.mono ?_
  rintro e w5 ⟨va, rfl, M1, psa, hD5, hMa, hPa, hAa, hN5, hT5⟩
  obtain ⟨sa, hsa, hka, hqa⟩ := X.out.o1
  obtain ⟨ga, ca, ha, rfl, rfl, hga, hgal, _, hca⟩ := msg_one hMa (hPa.trans hsa)
  have a0 : w5.cell? ⟨ga, 0, none⟩ = some (.int .i64 2) := by rw [hca 0 (by decide)]; show some (Value.int .i64 sa.kind) = _; rw [hka]
  have a3 : w5.cell? ⟨ga, 3, none⟩ = some (.int .i64 5) := by rw [hca 3 (by decide)]; show some (Value.int .i64 sa.seq) = _; rw [hqa]
  clear hsa hka hqa
  have hgn : ga ∉ M1.own := hAa ga (.inl rfl)
  have hB5 : Below w.heap.size w w5 := HB4.out.trans (hT5.below hs4 fun k hk => hown4.out k hk)
  have hown5 : ∀ k ∈ M1.own, w.heap.size ≤ k := fun k hk => (hN5.own k hk).elim (hown4.out k) fun h => by omega
  have HD5 := Lib.hid hD5
  have HB5 := Lib.hid hB5
  have HO5 := Lib.hid hown5
  have HG5 := Lib.hid hgn
  have hT5n := tick_stepped M1 d1 X.out.k1 X.out.c1 X.out.n1 w5 hD5
  have hg1 : M1.g = M0.g := hN5.g
  rw [X.out.s2, hg1] at hT5n
  have HT5 := Lib.hid hT5n
  clear hT5n
  clear hMa hPa hAa hN5 hT5 hca hgn hD5 hB5 hown5 hown4 HON HB4
  go_wp2_with fail
  refine HT5.out.mono ?_
  rintro e w6 ⟨vx, rfl, M2, psx, hD6, hMx, hPx, hAx, hN6, hT6⟩
  obtain ⟨sx, hsx, hkx⟩ := X.out.o2
  obtain ⟨gx, cx, hx, rfl, rfl, hgx, hgxl, _, hcx⟩ := msg_one hMx (hPx.trans hsx)
  have x0 : w6.cell? ⟨gx, 0, none⟩ = some (.int .i64 1) := by rw [hcx 0 (by decide)]; show some (Value.int .i64 sx.kind) = _; rw [hkx]
  obtain ⟨ka, hga6, hgal6⟩ := aside_kept hT6 hN6 hgal HG5.out
  have b0 := (World.cell?_of_block (a := ⟨ga, 0, none⟩) ka).trans a0
  have b3 := (World.cell?_of_block (a := ⟨ga, 3, none⟩) ka).trans a3
  have hs5 : w.heap.size ≤ w5.heap.size := HB5.out.size
  have hB6 : Below w.heap.size w w6 := HB5.out.trans (hT6.below hs5 fun k hk => HO5.out k hk)
  have hown6 : ∀ k ∈ M2.own, w.heap.size ≤ k := fun k hk => (hN6.own k hk).elim (HO5.out k) fun h => by omega
  have HG6 := Lib.hid (show ga ∉ M2.own ∧ gx ∉ M2.own from ⟨hga6, hAx gx (.inl rfl)⟩)
  have HD6 := Lib.hid hD6
  have HB6 := Lib.hid hB6
  have HO6 := Lib.hid hown6
  have hT6n := tick_stepped M2 d2 X.out.k2 X.out.c2 X.out.n2 w6 hD6
  have hg2 : M2.g = M0.g := hN6.g.trans hg1
  rw [X.out.s3, hg2] at hT6n
  have HT6 := Lib.hid hT6n
  clear hT6n
  clear hMx hPx hAx hN6 hT6 hcx hga6 hD6 hB6 hown6 HT5 HD5 HB5 HO5 HG5 a0 a3 ka hsx hkx
  go_wp2_with fail
  refine HT6.out.mono ?_
  rintro e w7 ⟨vy, rfl, M3, psy, hD7, hMy, hPy, hAy, hN7, hT7⟩
  obtain ⟨oy, cy, rfl⟩ := slAt_slice hMy.1.at
  have hly : psy.length = 0 := by rw [← List.length_map (f := (·.2)), hPy]; exact X.out.o3
  rw [hly]
  obtain ⟨ka, hga7, hgal7⟩ := aside_kept hT7 hN7 hgal6 HG6.out.1
  obtain ⟨kx, hgx7, hgxl7⟩ := aside_kept hT7 hN7 hgxl HG6.out.2
  have c0 := (World.cell?_of_block (a := ⟨ga, 0, none⟩) ka).trans b0
  have c3 := (World.cell?_of_block (a := ⟨ga, 3, none⟩) ka).trans b3
  have y0 := (World.cell?_of_block (a := ⟨gx, 0, none⟩) kx).trans x0
  have hs6 : w.heap.size ≤ w6.heap.size := HB6.out.size
  have hB7 : Below w.heap.size w w7 := HB6.out.trans (hT7.below hs6 fun k hk => HO6.out k hk)
  have hown7 : ∀ k ∈ M3.own, w.heap.size ≤ k := fun k hk => (hN7.own k hk).elim (HO6.out k) fun h => by omega
  have HG7 := Lib.hid (show ga ∉ M3.own ∧ gx ∉ M3.own from ⟨hga7, hgx7⟩)
  have HD7 := Lib.hid hD7
  have HB7 := Lib.hid hB7
  have HO7 := Lib.hid hown7
  have hT7n := tick_stepped M3 d3 X.out.k3 X.out.c3 X.out.n3 w7 hD7
  have hg3 : M3.g = M0.g := hN7.g.trans hg2
  rw [X.out.s4, hg3] at hT7n
  have HT7 := Lib.hid hT7n
  clear hT7n
  clear hMy hPy hAy hN7 hT7 hga7 hgx7 hD7 hB7 hown7 HT6 HD6 HB6 HO6 HG6 b0 b3 x0 ka kx hly
  go_wp2_with fail
  refine HT7.out.mono ?_
  rintro e w8 ⟨vz, rfl, M4, psz, hD8, hMz, hPz, hAz, hN8, hT8⟩
  obtain ⟨oz, cz, rfl⟩ := slAt_slice hMz.1.at
  have hlz : psz.length = 1 := by rw [← List.length_map (f := (·.2)), hPz]; exact X.out.o4
  rw [hlz]
  obtain ⟨ka, hga8, hgal8⟩ := aside_kept hT8 hN8 hgal7 HG7.out.1
  obtain ⟨kx, hgx8, hgxl8⟩ := aside_kept hT8 hN8 hgxl7 HG7.out.2
  have b0 := (World.cell?_of_block (a := ⟨ga, 0, none⟩) ka).trans c0
  have b3 := (World.cell?_of_block (a := ⟨ga, 3, none⟩) ka).trans c3
  have x0 := (World.cell?_of_block (a := ⟨gx, 0, none⟩) kx).trans y0
  have hs7 : w.heap.size ≤ w7.heap.size := HB7.out.size
  have hB8 : Below w.heap.size w w8 := HB7.out.trans (hT8.below hs7 fun k hk => HO7.out k hk)
  have hown8 : ∀ k ∈ M4.own, w.heap.size ≤ k := fun k hk => (hN8.own k hk).elim (HO7.out k) fun h => by omega
  have HD8 := Lib.hid hD8
  have HB8 := Lib.hid hB8
  have HO8 := Lib.hid hown8
  have hg4 : M4.g = M0.g := hN8.g.trans hg3
  have hW8n := words_any M4 d4 w8 hD8
  rw [hg4] at hW8n
  have HW8 := Lib.hid hW8n
  clear hW8n
  clear hMz hPz hAz hN8 hT8 hga8 hgx8 hD8 hB8 hown8 HT7 HD7 HB7 HO7 HG7 c0 c3 y0 ka kx hlz
  go_wp2_with fail
  refine HW8.out.mono ?_
  rintro e w9 ⟨os, cs, rfl, ho9, hb9⟩
  have hws := X.out.w4
  have hsl := ho9.at
  rw [hws] at hsl
  obtain ⟨gs, offs, rfl⟩ := hsl.plain Mb.cells_len (by decide) (by simp)
  have s1 : w9.cell? ⟨gs, offs + 4, none⟩ = some (.int .i64 2) := hsl.cell Mb.cells_len (i := 1) (c := 1) (by decide) (by decide)
  have hlen : (allT d4.tab).length = 2 := by rw [hws]; rfl
  rw [hlen]
  have a0 := (hb9.cell (p := ⟨ga, 0, none⟩) hgal8).trans b0
  have a3 := (hb9.cell (p := ⟨ga, 3, none⟩) hgal8).trans b3
  have y0 := (hb9.cell (p := ⟨gx, 0, none⟩) hgxl8).trans x0
  have HD9 := Lib.hid (HD8.out.below hb9)
  have HB9 := Lib.hid (HB8.out.trans (hb9.mono HB8.out.size))
  have HO9 := HO8
  clear hsl ho9 hb9 hws HW8 HD8 HB8 HO8 b0 b3 x0 hlen
  go_wp2_with fail
  have hT9n := tick_stepped M4 d4 X.out.k4 X.out.c4 X.out.n4 w9 HD9.out
  rw [X.out.s5, hg4] at hT9n
  have HT9 := Lib.hid hT9n
  clear hT9n s1 a0 a3 y0
  refine HT9.out.mono ?_
  rintro e w10 ⟨vp, rfl, M5, psp, hD10, _, _, _, hN10, hT10⟩
  have hg5 : M5.g = M0.g := hN10.g.trans hg4
  have hs9 : w.heap.size ≤ w9.heap.size := HB9.out.size
  have hB10 : Below w.heap.size w w10 := HB9.out.trans (hT10.below hs9 fun k hk => HO9.out k hk)
  have hown10 : ∀ k ∈ M5.own, w.heap.size ≤ k := fun k hk => (hN10.own k hk).elim (HO9.out k) fun h => by omega
  have hT10n := tick_stepped M5 d5 X.out.k5 X.out.c5 X.out.n5 w10 hD10
  rw [X.out.s6, hg5] at hT10n
  have HT10 := Lib.hid hT10n
  have HB10 := Lib.hid hB10
  have HO10 := Lib.hid hown10
  clear hT10n hB10 hown10 hD10 hN10 hT10 HT9 HD9 HO9 HB9
  go_wp2_with fail
  refine HT10.out.mono ?_
  rintro e w11 ⟨vq, rfl, M6, psq, hD11, _, _, _, hN11, hT11⟩
  have hg6 : M6.g = M0.g := hN11.g.trans hg5
  have hs10 : w.heap.size ≤ w10.heap.size := HB10.out.size
  have hB11 : Below w.heap.size w w11 := HB10.out.trans (hT11.below hs10 fun k hk => HO10.out k hk)
  have hW11n := words_any M6 d6 w11 hD11
  rw [hg6] at hW11n
  have HW11 := Lib.hid hW11n
  have HB11 := Lib.hid hB11
  clear hW11n hB11 hD11 hN11 hT11 HT10 HB10 HO10
  go_wp2_with fail
  refine HW11.out.mono ?_
  rintro e w12 ⟨ot, ct, rfl, ho12, hb12⟩
  have hws := X.out.w6
  have hsl := ho12.at
  rw [hws] at hsl
  obtain ⟨gt, offt, rfl⟩ := hsl.plain Mb.cells_len (by decide) (by simp)
  have s1 : w12.cell? ⟨gt, offt + 4, none⟩ = some (.int .i64 3) := hsl.cell Mb.cells_len (i := 1) (c := 1) (by decide) (by decide)
  have hlen : (allT d6.tab).length = 2 := by rw [hws]; rfl
  rw [hlen]
  have HB12 := Lib.hid (HB11.out.trans (hb12.mono HB11.out.size))
  clear hsl ho12 hb12 hws HW11 HB11 hlen
  go_wp2_with fail
  refine (leave_nil w12).mono ?_
  rintro e w13 ⟨rfl, rfl⟩
  go_wp2_with fail
  go_ret
  exact ⟨rfl, HB12.out⟩
end Go.Proofs.YtejihgfigclppaaGreat
