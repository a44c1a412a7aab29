/-
  The law WindowMeans walked: it returns true, and turns nothing that was there.
-/
import Derived.Test.YtfbbafmklahmmaaMeansP
import Derived.Test.YtfbbafmklahmmaaOpenEv
import Derived.Deep.DeepCutAuto
namespace Go.Proofs.Ytfbbafmklahmmaa
open Go.Shelf Go.RowKit Go.Lib Go.Sort
set_option linter.unusedVariables false

def u16cells (v : Int) : List Value := [.int .u16 v]
theorem u16cells_len (v : Int) : (u16cells v).length = 1 := rfl
def hdr0 (e : Ev) : PEv := (⟨none, 0, 0⟩, e)
def rowP (vs : List Int) : List PEv := (rowOf vs).map hdr0
theorem rowP_len (vs : List Int) : (rowP vs).length = vs.length := by simp [rowP, rowOf_len]
theorem rowP_map (vs : List Int) : (rowP vs).map (·.2) = rowOf vs := by
  unfold rowP
  rw [List.map_map]
  exact List.map_id' _
theorem rowOf_snoc (vs : List Int) (v : Int) : rowOf (vs ++ [v]) = rowOf vs ++ [sampleEv 3 (vs.length + 1) v] := by
  unfold rowOf
  rw [List.mapIdx_append]
  simp
theorem rowP_snoc (vs : List Int) (v : Int) : rowP (vs ++ [v]) = rowP vs ++ [hdr0 (sampleEv 3 (vs.length + 1) v)] := by
  unfold rowP; rw [rowOf_snoc, List.map_append]; rfl
theorem rowP_hdr (vs : List Int) : ∀ p ∈ rowP vs, p.1.val = .slice none 0 0 := fun p hp => by
  obtain ⟨e, _, rfl⟩ := List.mem_map.1 hp; rfl
theorem rowP_rem (vs : List Int) : ∀ p ∈ rowP vs, p.2.rem = [] := fun p hp => by
  obtain ⟨e, he, rfl⟩ := List.mem_map.1 hp
  unfold rowOf at he
  obtain ⟨i, hi, rfl⟩ := List.mem_mapIdx.1 he
  rfl
theorem rowOf_mem {vs : List Int} (hv : ∀ v ∈ vs, 0 ≤ v ∧ v ≤ 131070) : ∀ e ∈ rowOf vs, small e ∧ isSample 0 3 e = true := fun e he => by
  unfold rowOf at he
  obtain ⟨i, hi, rfl⟩ := List.mem_mapIdx.1 he
  exact ⟨hv _ (List.getElem_mem hi), rfl⟩

theorem rowOf_set (vs : List Int) (j : Nat) (x : Int) : rowOf (vs.set j x) = (rowOf vs).set j (sampleEv 3 (j + 1) x) := by
  unfold rowOf
  rw [List.mapIdx_set]
theorem rowP_get (vs : List Int) (j : Nat) (h : j < vs.length) (h' : j < (rowP vs).length) : (rowP vs)[j] = hdr0 (sampleEv 3 (j + 1) vs[j]) := by
  simp only [rowP, List.getElem_map]
  rw [rowOf_get vs j h]
theorem rowP_set (vs : List Int) (j : Nat) (x : Int) : rowP (vs.set j x) = (rowP vs).set j (hdr0 (sampleEv 3 (j + 1) x)) := by
  unfold rowP
  rw [rowOf_set, List.map_set]
/-- one event's value is turned in its row -/
theorem slAt_setval {w : World} {b off n cap : Nat} {ps : List PEv} (h : SlAt pcells w (.slice (some ⟨b, off, none⟩) n cap) ps) (j : Nat) (hj : j < ps.length) (p' : PEv) (x : Int)
    (hp : ∀ c, c < 14 → (pcells p')[c]? = if c = 5 then some (.int .i64 x) else (pcells ps[j])[c]?) : SlAt pcells (w.setCell ⟨b, off + j * 14 + 5, none⟩ (.int .i64 x)) (.slice (some ⟨b, off, none⟩) n cap) (ps.set j p') := by
  have hc := h
  obtain ⟨oa, cap', hv, hcap, _, _⟩ := hc
  simp only [Value.slice.injEq] at hv
  obtain ⟨rfl, rfl, rfl⟩ := hv
  have hl : (ps.set j p').length = ps.length := List.length_set
  rw [← hl]
  refine SlAt.lay (by rw [hl]; exact hcap) fun t u hu => ?_
  have htl := (List.getElem?_eq_some_iff.1 hu).1
  rw [flat_len pcells 14 pcells_len, hl] at htl
  have hi : t / 14 < ps.length := (Nat.div_lt_iff_lt_mul (by decide)).2 htl
  have hcc : t % 14 < 14 := Nat.mod_lt _ (by decide)
  have hjk : t / 14 * 14 + t % 14 = t := Nat.div_add_mod' t 14
  have hf := flat_at pcells 14 pcells_len (ps.set j p') (t / 14) (t % 14) (by rw [hl]; exact hi) hcc
  rw [hjk, hu] at hf
  have hcell := h.cell pcells_len hi hcc
  have hlt : t % 14 < (pcells ps[t / 14]).length := by rw [pcells_len]; exact hcc
  rw [cell_set]
  by_cases hij : t / 14 = j
  · subst hij
    rw [List.getElem_set_self, hp _ hcc] at hf
    by_cases h5 : t % 14 = 5
    · rw [if_pos h5] at hf
      rw [if_pos ⟨rfl, by omega⟩, show off + t = off + (t / 14 * 14 + t % 14) by omega, hcell, List.getElem?_eq_getElem hlt, hf]
      rfl
    · rw [if_neg h5] at hf
      rw [if_neg (by rintro ⟨_, h6⟩; omega), show off + t = off + (t / 14 * 14 + t % 14) by omega, hcell, hf]
  · rw [List.getElem_set_ne (fun h => hij h.symm)] at hf
    rw [if_neg (by rintro ⟨_, h6⟩; omega), show off + t = off + (t / 14 * 14 + t % 14) by omega, hcell, hf]
theorem vsum_le : ∀ (l l' : List Ev), l.length = l'.length → (∀ i (h : i < l.length) (h' : i < l'.length), l[i].value ≤ l'[i].value) → vsum l ≤ vsum l'
  | [], [], _, _ => Int.le_refl _
  | a :: l, [], h, _ => by simp at h
  | [], a :: l, h, _ => by simp at h
  | a :: l, b :: l', h, k => by
    have h1 := k 0 (by simp) (by simp)
    have h2 := vsum_le l l' (by simpa using h) fun i hi hi' => by
      have := k (i + 1) (by simpa using hi) (by simpa using hi')
      simpa using this
    simp only [vsum, List.map_cons, List.sum_cons, List.getElem_cons_zero] at *
    omega
/-- a greater value in the row never makes the newest samples' sum less -/
theorem vsum_row_set (vs : List Int) (j : Nat) (x : Int) (k : Nat) (hj : j < vs.length) (hx : vs[j] ≤ x) : vsum ((rowOf vs).reverse.take k) ≤ vsum ((rowOf (vs.set j x)).reverse.take k) := by
  refine vsum_le _ _ (by simp [rowOf_len]) fun i h h' => ?_
  rw [List.getElem_take, List.getElem_take, List.getElem_reverse, List.getElem_reverse]
  simp only [List.length_take, List.length_reverse, rowOf_len, List.length_set] at h h'
  have e1 : ∀ (l : List Int) (hl : l.length = vs.length) (q : Nat) (hq : q < (rowOf l).length), (rowOf l)[q].value = l[q]'(by rw [rowOf_len] at hq; exact hq) := fun l hl q hq => by
    rw [rowOf_get l q (by rw [rowOf_len] at hq; exact hq)]; rfl
  rw [e1 vs rfl, e1 (vs.set j x) (by simp)]
  simp only [rowOf_len, List.length_set]
  rw [List.getElem_set]
  split
  · rename_i he; subst he; exact hx
  · exact Int.le_refl _

set_option maxRecDepth 100000 in
set_option maxHeartbeats 8000000 in
theorem lawMeans (oa : Option Addr) (cap : Nat) (vs : List Int) (size at' more : Int) (w : World) (h : SlAt u16cells w (.slice oa vs.length cap) vs) (hv : ∀ v ∈ vs, 0 ≤ v ∧ v ≤ 65535) (hs0 : 0 ≤ size) (hs1 : size ≤ 255) (ha0 : 0 ≤ at') (ha1 : at' ≤ 255) (hm0 : 0 ≤ more) (hm1 : more ≤ 65535) :
    Calls Try.prog 5 #[.agg #[.slice oa vs.length cap, .int .u8 size, .int .u8 at', .int .u16 more]] w fun e w' => e = .returned (.bool true) ∧ RowKit.Below w.heap.size w w' := by
  have HS := Lib.hid h
  have HV := Lib.hid hv
  have AL := Lib.hid alive10
  clear h hv
  go_enter Try.func5, Try.ntmps5
  go_wp2_with fail
  refine (AL.out _).mono ?_
  rintro e w1 ⟨rfl, hb1⟩
  obtain ⟨hcell, hfr⟩ := bcell hb1
  have hz1 : w.heap.size < w1.heap.size := by have := hb1.size; simp at this; omega
  have hB1 : RowKit.Below w.heap.size w w1 := ((RowKit.Below.refl _ _).alloc (Nat.le_refl _) _).trans (hb1.mono (by simp))
  have HB1 := Lib.hid hB1
  clear hb1 hB1
  go_wp2_with fail
  go_quiet (fail)
  have hB2 : RowKit.Below w.heap.size w (w1.drewN nq) := HB1.out.trans ⟨rfl, rfl, rfl, Nat.le_refl _, fun _ _ => rfl⟩
  have hz2 : w.heap.size < (w1.drewN nq).heap.size := hz1
  clear hcell hfr hz1 HB1
  generalize w1.drewN nq = w2 at *
  have HB2 := Lib.hid hB2
  clear hB2
  by_cases hn0 : ((vs.length : Int) == 0) = true
  · go_wp2_with fail
    go_ret
    exact ⟨rfl, HB2.out⟩
  · have hn0' : ((vs.length : Int) == 0) = false := by simpa using hn0
    have hn1 : 1 ≤ vs.length := by have hq := hn0'; rw [beq_eq_false_iff_ne] at hq; omega
    clear hn0
    by_cases hn40 : (40 : Int) < (vs.length : Int)
    · go_wp2_with fail
      go_ret
      exact ⟨rfl, HB2.out⟩
    · by_cases hsz : (size == 0) = true
      · go_wp2_with fail
        go_ret
        exact ⟨rfl, HB2.out⟩
      · have hsz' : (size == 0) = false := by simpa using hsz
        have hs2 : 1 ≤ size := by have hq := hsz'; rw [beq_eq_false_iff_ne] at hq; omega
        clear hsz
        have hsl2 : SlAt u16cells w2 (.slice oa vs.length cap) vs := HS.out.below u16cells_len (by decide) HB2.out (Nat.le_refl _)
        have HSL := Lib.hid hsl2
        clear hsl2
        go_wp2_with fail
        go_loopg [7, 43] vs.length (fun gk s7 s43 wr => ∃ (i : Nat) (oq : Option Addr) (cq : Nat), s43 = .int .i64 i ∧ s7 = .slice oq i cq ∧ i ≤ vs.length ∧ vs.length - i ≤ gk ∧ Hid (Owns pcells 14 w2.heap.size 46 wr (.slice oq i cq) (rowP (vs.take i))) ∧ Hid (RowKit.Below w2.heap.size w2 wr))
        case atStart => exact ⟨0, none, 0, rfl, rfl, Nat.zero_le _, Nat.le_refl _, Owns.nil _ _ _ _ _, RowKit.Below.refl _ _⟩
        case round =>
          obtain ⟨i, oq, cq, rfl, rfl, hi, hg, HO, HB⟩ := hrel
          by_cases hlt : i < vs.length
          · have hltz : (i : Int) < (vs.length : Int) := by omega
            have hsl : SlAt u16cells wr (.slice oa vs.length cap) vs := HSL.out.below u16cells_len (by decide) HB.out (Nat.le_refl _)
            obtain ⟨b, off, rfl⟩ := hsl.plain u16cells_len (by decide) (by intro e; rw [e] at hlt; exact absurd hlt (by simp))
            have c0 := hsl.cell u16cells_len hlt (c := 0) (by decide)
            obtain ⟨hv0, hv1⟩ := HV.out vs[i] (List.getElem_mem hlt)
            have htk : vs.take (i + 1) = vs.take i ++ [vs[i]] := List.take_succ_eq_append_getElem hlt
            generalize vs[i] = v at *
            simp only [u16cells, Nat.mul_one, Nat.add_zero, List.getElem?_cons_zero] at c0
            have htl : (vs.take i).length = i := by rw [List.length_take]; omega
            have HTK := Lib.hid htk
            clear hsl htk
            have hrl : (rowP (vs.take i)).length = i := by rw [rowP_len, htl]
            have hrow : rowP (vs.take (i + 1)) = rowP (vs.take i) ++ [hdr0 (sampleEv 3 (i + 1) v)] := by rw [HTK.out, rowP_snoc, htl]
            have HROW := Lib.hid hrow
            clear hrow
            go_wp2_with fail
            refine (sample_any 3 (i + 1) v _).mono ?_
            rintro e w3 ⟨rfl, hb3⟩
            have HB3 := Lib.hid hb3
            clear hb3
            go_wp2_with (at_builtin; go_loud (refine wpList_app pcells 14 pcells_len (by decide) pcells_one _ rfl _ _ 22 rfl w2.heap.size 46 _ 128 Try.underlying22 infoEv rfl _ (rowP (vs.take i)) rfl ?h1 _ [hdr0 (sampleEv 3 (i + 1) v)] rfl ?h2 ?h3 ?h4 ?h5 ?_))
            case h1 => exact HO.out.below (HB3.out.alloc HB3.out.size _) (Nat.le_refl _)
            case h2 => exact slAt_new (enc := pcells) w3 (pcells (hdr0 (sampleEv 3 (i + 1) v))).toArray 46 1 1 (0, 0) [hdr0 (sampleEv 3 (i + 1) v)] rfl rfl (by decide)
            case h3 => rw [hrl]; simp only [List.length_cons, List.length_nil]; omega
            case h4 => rw [hrl]; simp only [List.length_cons, List.length_nil]; omega
            case h5 => have h6 := HB.out.size; have h7 := HB3.out.size; simp; omega
            intro v' w' hown2 hg2 hv2
            have hbb : RowKit.Below w2.heap.size w2 w' := ((HB.out.trans (HB3.out.mono HB.out.size)).alloc (by have h6 := HB.out.size; have h7 := HB3.out.size; omega) _).grown hg2 (by have h6 := HB.out.size; have h7 := HB3.out.size; simp; omega) fun k hk => (HO.out.lt k hk).1
            obtain ⟨oq', cq', hv'⟩ := slAt_slice hown2.at
            rw [← HROW.out] at hown2 hv'
            rw [rowP_len, List.length_take, Nat.min_eq_left (by omega)] at hv'
            rw [hv'] at hown2 ⊢
            have HOW := Lib.hid hown2
            have HBB := Lib.hid hbb
            clear hbb hown2 hg2 hv2
            go_wp2_with fail
            go_roundg (vs.length - (i + 1))
            case measure => omega
            case rel => exact ⟨i + 1, oq', cq', by go_num, rfl, by omega, Nat.le_refl _, HOW, HBB⟩
          · have hltz : ¬ (i : Int) < (vs.length : Int) := by omega
            obtain rfl : i = vs.length := by omega
            have ho := HO.out
            rw [List.take_length] at ho
            have hev : EvsAt wr (.slice oq vs.length cq) (rowP vs) := ⟨ho.at, remsAt_nil (rowP_hdr vs) (rowP_rem vs)⟩
            have hof := of_any oq cq (rowP vs) 0 3 size
            have hme := mean_any oq cq (rowP vs) 0 3 size
            rw [rowP_len, rowP_map] at hme
            rw [rowP_len] at hof
            have HOF := Lib.hid hof
            have HME := Lib.hid hme
            have HEV := Lib.hid hev
            have HOW := Lib.hid ho
            clear hof hme hev ho HO
            go_wp2_with fail
            refine (HOF.out _ HEV.out (by omega) (rem_nil (rowP_rem vs))).mono ?_
            rintro e w4 ⟨v4, qs, rfl, hql, hqm, hacc, hb4⟩
            obtain ⟨o4, c4, rfl⟩ := slAt_slice hacc.row.at
            rw [rowP_map] at hqm
            have hsm := rowOf_mem (vs := vs) fun v hv => by have := HV.out v hv; omega
            have hwin := winOf_row (rowOf_sorted vs) (fun e he => (hsm e he).2) size hs2
            rw [hwin, rowOf_len] at hqm
            have hk : qs.length = min vs.length size.toNat := by
              have := congrArg List.length hqm
              rw [List.length_map, List.length_take, List.length_reverse, rowOf_len] at this
              omega
            have hk1 : 1 ≤ qs.length := by omega
            have hk2 : qs.length ≤ 40 := by omega
            have hk3 : (qs.length : Int) = min (vs.length : Int) size := by omega
            have hgetv : ∀ i, (hi : i < qs.length) → small (qs[i]).2 ∧ (qs[i]).2.dot.seq = (vs.length : Int) - i := fun i hi => by
              have hi2 : i < vs.length := by omega
              have e1 : (qs.map (·.2))[i]'(by rw [List.length_map]; exact hi) = (rowOf vs)[vs.length - 1 - i]'(by rw [rowOf_len]; omega) := by
                have : ∀ (l : List Ev) (hl : l = List.take (min vs.length size.toNat) (rowOf vs).reverse) (h : i < l.length), l[i] = (rowOf vs)[vs.length - 1 - i]'(by rw [rowOf_len]; omega) := by
                  intro l hl h
                  subst hl
                  rw [List.getElem_take, List.getElem_reverse]
                  congr 1
                  rw [rowOf_len]
                exact this _ hqm _
              rw [List.getElem_map] at e1
              have hlt2 : vs.length - 1 - i < vs.length := by omega
              constructor
              · rw [e1]; exact (hsm _ (List.getElem_mem _)).1
              · rw [e1, rowOf_get vs _ hlt2]
                show ((vs.length - 1 - i : Nat) : Int) + 1 = _
                omega
            have hsq : ∀ e ∈ qs.map (·.2), small e := fun e he => by
              obtain ⟨q, hq, rfl⟩ := List.mem_map.1 he
              obtain ⟨i, hi, rfl⟩ := List.mem_iff_getElem.1 hq
              exact (hgetv i hi).1
            have hb4' : RowKit.Below w.heap.size w w4 := (HB2.out.trans (HB.out.mono (by omega))).trans (hb4.mono (by have := HB.out.size; omega))
            have HQM := Lib.hid hqm
            have HWIN := Lib.hid hwin
            have HSM := Lib.hid hsm
            have HSQ := Lib.hid hsq
            have HGET := Lib.hid hgetv
            have HACC := Lib.hid hacc
            have HB4 := Lib.hid hb4
            have HB4' := Lib.hid hb4'
            have hev4 : EvsAt w4 (.slice oq vs.length cq) (rowP vs) := HEV.out.below HB4.out (Nat.le_refl _)
            have how4 : Owns pcells 14 w2.heap.size 46 w4 (.slice oq vs.length cq) (rowP vs) := HOW.out.below HB4.out (Nat.le_refl _)
            have hw24 : w2.heap.size ≤ w4.heap.size := by have h1 := HB.out.size; have h2 := HB4.out.size; omega
            have HEV4 := Lib.hid hev4
            have HOW4 := Lib.hid how4
            clear hqm hwin hsm hsq hgetv hacc hb4 hb4' hk hql hev4 how4 HOW HEV HOF HSL
            go_wp2_with fail
            go_loopg [11, 12, 71] qs.length (fun gk s11 s12 s71 wq => ∃ (i : Nat) (lo hi : Int), s71 = .int .i64 i ∧ s11 = .int .i64 lo ∧ s12 = .int .i64 hi ∧ i ≤ qs.length ∧ qs.length - i ≤ gk ∧ 0 ≤ lo ∧ lo ≤ 1048576 ∧ 0 ≤ hi ∧ hi ≤ 1048576 ∧ Hid (∀ e ∈ (qs.take i).map (·.2), lo ≤ e.value ∧ e.value ≤ hi) ∧ Hid (RowKit.Below w4.heap.size w4 wq))
            case atStart => exact ⟨0, 1048576, 0, rfl, rfl, rfl, Nat.zero_le _, Nat.le_refl _, by decide, by decide, by decide, by decide, by intro e he; simp at he, RowKit.Below.refl _ _⟩
            case round =>
              obtain ⟨i, lo, hi, rfl, rfl, rfl, hi2, hg2, lo0, lo1, hi0, hi1, HLH, HBQ⟩ := hrel
              by_cases hlt2 : i < qs.length
              · have hltz2 : (i : Int) < (qs.length : Int) := by omega
                have hsl4 : SlAt pcells wr (.slice o4 qs.length c4) qs := HACC.out.row.at.below pcells_len (by decide) HBQ.out (Nat.le_refl _)
                obtain ⟨b, off, rfl⟩ := slAt_some hsl4 i hlt2
                obtain ⟨ra, rn, rc, ev, hp, c0, c1, c2, c3, c4, c5, c6, c7, c8, c9, c10, c11, c12, c13⟩ := hsl4.ev i hlt2
                obtain ⟨hsme, hseq⟩ := HGET.out i hlt2
                rw [(List.getElem?_eq_some_iff.1 hp).2] at hsme hseq
                simp only at hsme hseq
                obtain ⟨v0, v1⟩ := hsme
                have hseqb : (ev.dot.seq != (vs.length : Int) - i) = false := by rw [hseq]; simp
                have htk : (qs.take (i + 1)).map (·.2) = (qs.take i).map (·.2) ++ [ev] := by
                  rw [List.take_succ_eq_append_getElem hlt2, (List.getElem?_eq_some_iff.1 hp).2, List.map_append]; rfl
                have HTK := Lib.hid htk
                clear hsl4 hp htk hseq
                go_wp2_with fail
                go_quiet (fail)
                go_wp2_with fail
                go_roundg (qs.length - (i + 1))
                case measure => omega
                case rel =>
                  refine ⟨i + 1, min lo ev.value, max hi ev.value, by go_num, rfl, rfl, by omega, Nat.le_refl _, by omega, by omega, by omega, by omega, ?_, ?_⟩
                  · intro e he
                    rw [HTK.out] at he
                    rcases List.mem_append.1 he with he | he
                    · have := HLH.out e he; omega
                    · obtain rfl : e = ev := by simpa using he
                      omega
                  · exact (HBQ.out.alloc HBQ.out.size _).trans ⟨rfl, rfl, rfl, Nat.le_refl _, fun _ _ => rfl⟩
              · have hltz2 : ¬ (i : Int) < (qs.length : Int) := by omega
                obtain rfl : i = qs.length := by omega
                have hlh := HLH.out
                rw [List.take_length] at hlh
                have hql : (qs.map (·.2)).length = qs.length := List.length_map _
                have hmn : meanOf (winOf (rowOf vs) 0 3 size) = (ceilQ (vsum (qs.map (·.2))) qs.length, 0) := by
                  rw [HWIN.out, rowOf_len, ← HQM.out, meanOf_small HSQ.out (by omega) (by omega), hql]
                have hml := mean_lo HSQ.out (by omega) lo lo0 (fun e he => (hlh e he).1)
                have hmh := mean_hi HSQ.out (by omega) hi hi0 (fun e he => (hlh e he).2)
                rw [hql] at hml hmh
                obtain ⟨m, hm⟩ : ∃ m, m = ceilQ (vsum (qs.map (·.2))) qs.length := ⟨_, rfl⟩
                have hme := HME.out wr (HEV4.out.below HBQ.out (Nat.le_refl _)) (by omega) (rem_nil (rowP_rem vs))
                rw [hmn] at hme
                rw [← hm] at hml hmh hme
                have HM := Lib.hid hm
                have HMEQ := Lib.hid hme
                clear hmn hm hme hlh HME
                simp only [beq_self_eq_true] at HMEQ
                go_wp2_with fail
                refine HMEQ.out.mono ?_
                rintro e w5 ⟨rfl, hb5⟩
                have hev5 : EvsAt w5 (.slice oq vs.length cq) (rowP vs) := (HEV4.out.below HBQ.out (Nat.le_refl _)).below hb5 (Nat.le_refl _)
                have how5 : Owns pcells 14 w2.heap.size 46 w5 (.slice oq vs.length cq) (rowP vs) := (HOW4.out.below HBQ.out (Nat.le_refl _)).below hb5 (Nat.le_refl _)
                have hbel5 : RowKit.Below w.heap.size w w5 := (HB4'.out.trans (HBQ.out.mono (by have := HB4'.out.size; omega))).trans (hb5.mono (by have h1 := HB4'.out.size; have h2 := HBQ.out.size; omega))
                have hne : rowP vs ≠ [] := by intro e; have := rowP_len vs; rw [e] at this; simp at this; omega
                obtain ⟨b, off, rfl⟩ := hev5.1.plain pcells_len (by decide) hne
                have hbg : w2.heap.size ≤ b ∧ b < w5.heap.size := how5.lt b rfl
                obtain ⟨j, hj⟩ : ∃ j : Nat, at' % (vs.length : Int) = (j : Int) := ⟨(at' % (vs.length : Int)).toNat, by have := Int.emod_nonneg at' (show (vs.length : Int) ≠ 0 by omega); omega⟩
                have hj1 : j < vs.length := by have := Int.emod_lt_of_pos at' (show (0 : Int) < vs.length by omega); omega
                have hj2 : (j : Int) < (vs.length : Int) := by omega
                have hjl : j < (rowP vs).length := by rw [rowP_len]; exact hj1
                have hgj : (rowP vs)[j] = hdr0 (sampleEv 3 (j + 1) vs[j]) := rowP_get vs j hj1 hjl
                have c5 := hev5.1.cell pcells_len hjl (c := 5) (by decide)
                rw [hgj] at c5
                have f5 : w5.frozen? ⟨b, off + j * 14 + 5, none⟩ = false := by
                  rcases how5.2 with ⟨hv, _⟩ | ⟨g, cap', cur, hv, _, hh, _⟩
                  · cases hv
                  · simp only [Value.slice.injEq, Option.some.injEq, Addr.mk.injEq] at hv
                    obtain ⟨⟨rfl, rfl, _⟩, _, _⟩ := hv
                    unfold World.frozen?; rw [hh]; simp
                obtain ⟨hvj0, hvj1⟩ := HV.out vs[j] (List.getElem_mem hj1)
                have hls : (vs.set j (vs[j] + more)).length = vs.length := List.length_set
                have hvs' : ∀ v ∈ vs.set j (vs[j] + more), 0 ≤ v ∧ v ≤ 131070 := fun v hv => by
                  rcases List.mem_or_eq_of_mem_set hv with hv | rfl
                  · have := HV.out v hv; omega
                  · omega
                have hev6 : EvsAt (w5.setCell ⟨b, off + j * 14 + 5, none⟩ (.int .i64 (vs[j] + more))) (.slice (some ⟨b, off, none⟩) vs.length cq) (rowP (vs.set j (vs[j] + more))) := by
                  refine ⟨?_, remsAt_nil (rowP_hdr _) (rowP_rem _)⟩
                  rw [rowP_set]
                  refine slAt_setval hev5.1 j hjl _ _ fun c hc => ?_
                  rw [hgj]
                  match c, hc with
                  | 0, _ | 1, _ | 2, _ | 3, _ | 4, _ | 5, _ | 6, _ | 7, _ | 8, _ | 9, _ | 10, _ | 11, _ | 12, _ | 13, _ => rfl
                have hsm' := rowOf_mem hvs'
                have hwin' := winOf_row (rowOf_sorted (vs.set j (vs[j] + more))) (fun e he => (hsm' e he).2) size hs2
                rw [rowOf_len, hls] at hwin'
                have hsq' : ∀ e ∈ (rowOf (vs.set j (vs[j] + more))).reverse.take (min vs.length size.toNat), small e := fun e he => (hsm' e (List.mem_reverse.1 (List.mem_of_mem_take he))).1
                have hlen' : ((rowOf (vs.set j (vs[j] + more))).reverse.take (min vs.length size.toNat)).length = qs.length := by rw [List.length_take, List.length_reverse, rowOf_len, hls]; omega
                have hmn' : meanOf (winOf (rowOf (vs.set j (vs[j] + more))) 0 3 size) = (ceilQ (vsum ((rowOf (vs.set j (vs[j] + more))).reverse.take (min vs.length size.toNat))) qs.length, 0) := by
                  rw [hwin', meanOf_small hsq' (by omega) (by omega), hlen']
                have hmm : m ≤ ceilQ (vsum ((rowOf (vs.set j (vs[j] + more))).reverse.take (min vs.length size.toNat))) qs.length := by
                  rw [HM.out, HQM.out]
                  have hb0 := vsum_bd _ HSQ.out
                  rw [HQM.out] at hb0
                  exact ceilQ_mono _ _ _ hb0.1 (vsum_row_set vs j _ _ hj1 (by omega)) (by omega)
                have hme' := mean_any (some ⟨b, off, none⟩) cq (rowP (vs.set j (vs[j] + more))) 0 3 size
                rw [rowP_len, rowP_map, hls, hmn'] at hme'
                generalize ceilQ (vsum ((rowOf (vs.set j (vs[j] + more))).reverse.take (min vs.length size.toNat))) qs.length = m2 at hme' hmm
                have hrem' := rowP_rem (vs.set j (vs[j] + more))
                generalize rowP (vs.set j (vs[j] + more)) = ps' at hme' hev6 hrem'
                generalize vs[j] = vj at *
                have c5' : w5.cell? ⟨b, off + j * 14 + 5, none⟩ = some (.int .i64 vj) := by rw [show off + j * 14 + 5 = off + (j * 14 + 5) by omega, c5]; rfl
                simp only [beq_self_eq_true] at hme'
                have HME' := Lib.hid hme'
                have HEV6 := Lib.hid hev6
                have HREM' := Lib.hid hrem'
                clear c5 hls hvs' hsm' hwin' hsq' hlen' hmn' hme' hev6 hrem' hgj hjl
                have HEV5 := Lib.hid hev5
                have HOW5 := Lib.hid how5
                have HBEL5 := Lib.hid hbel5
                clear hb5 hev5 how5 hbel5 hne HEV4 HOW4
                by_cases hlohi : (lo == hi) = true
                · have hmlo : (m != lo) = false := by
                    have : lo = hi := by simpa using hlohi
                    have : m = lo := by omega
                    simp [this]
                  go_wp2_with fail
                  refine (HME'.out _ HEV6.out (by omega) (rem_nil HREM'.out)).mono ?_
                  rintro e w7 ⟨rfl, hb7⟩
                  have hbel7 : RowKit.Below w.heap.size w w7 := (HBEL5.out.setCell (by show w.heap.size ≤ b; omega) _).trans (hb7.mono (by have := HBEL5.out.size; simp [World.setCell]; omega))
                  have HB7 := Lib.hid hbel7
                  clear hbel7 hb7
                  go_wp2_with fail
                  go_ret
                  exact ⟨rfl, HB7.out⟩
                · have hlohi' : (lo == hi) = false := by simpa using hlohi
                  clear hlohi
                  go_wp2_with fail
                  refine (HME'.out _ HEV6.out (by omega) (rem_nil HREM'.out)).mono ?_
                  rintro e w7 ⟨rfl, hb7⟩
                  have hbel7 : RowKit.Below w.heap.size w w7 := (HBEL5.out.setCell (by show w.heap.size ≤ b; omega) _).trans (hb7.mono (by have := HBEL5.out.size; simp [World.setCell]; omega))
                  have HB7 := Lib.hid hbel7
                  clear hbel7 hb7
                  go_wp2_with fail
                  go_ret
                  exact ⟨rfl, HB7.out⟩
end Go.Proofs.Ytfbbafmklahmmaa
