/-
  Both mixings: stir, Hash and Weight, of the program and of the reference: the same number of the same bytes.
  Both weights: of a node for a workload, the same number of the same 24 bytes.
-/
import Derived.Test.YtjgbflclhkeibaaGreatMRd
import Derived.Deep.DeepCutAuto
import Derived.Shelf.Abstract
namespace Go.Proofs.YtjgbflclhkeibaaGreat
open Go.RowKit Go.Lib Go.Sort
set_option linter.unusedVariables false
def bcells (c : Int) : List Value := [.int .u8 c]
theorem bcells_len (c : Int) : (bcells c).length = 1 := rfl
theorem bcells_one : ∀ (c : Int), ∀ u ∈ bcells c, u.oneCell' = true := fun c u hu => by
  obtain rfl : u = .int .u8 c := by simpa [bcells] using hu
  rfl
def mix1 (x : Int) : Int := IntKind.u64.wrap (bits BinOp.xor IntKind.u64 x (x / 1073741824) * 13787848793156543929)
def mix2 (x : Int) : Int := IntKind.u64.wrap (bits BinOp.xor IntKind.u64 x (x / 134217728) * 10723151780598845931)
def stirI (x : Int) : Int := bits BinOp.xor IntKind.u64 (mix2 (mix1 x)) (mix2 (mix1 x) / 2147483648)
def hstep (x c : Int) : Int := IntKind.u64.wrap (bits BinOp.xor IntKind.u64 x c * 1099511628211)
def hashI (bs : List Int) : Int := stirI (bs.foldl hstep 14695981039346656037)
set_option maxHeartbeats 1000000 in
theorem stir_any (x : Int) (W : World) : Calls Tryz.prog 115 #[.int .u64 x] W fun e w' => e = .returned (.int .u64 (stirI x)) ∧ w' = W := by
  go_enter Tryz.func115, Tryz.ntmps115
  go_wp2_with fail
  go_ret
  exact ⟨rfl, rfl⟩
set_option maxHeartbeats 1000000 in
theorem refStir_any (x : Int) (W : World) : Calls Tryz.prog 103 #[.int .u64 x] W fun e w' => e = .returned (.int .u64 (stirI x)) ∧ w' = W := by
  go_enter Tryz.func103, Tryz.ntmps103
  go_wp2_with fail
  go_ret
  exact ⟨rfl, rfl⟩
set_option maxHeartbeats 2000000 in
theorem hash_any (oa : Option Addr) (cap : Nat) (bs : List Int) (w : World) (h : SlAt bcells w (.slice oa bs.length cap) bs) (hb : ∀ c ∈ bs, 0 ≤ c ∧ c ≤ 255) (hl : bs.length ≤ 1000000) : Calls Tryz.prog 95 #[.slice oa bs.length cap] w fun e w' => e = .returned (.int .u64 (hashI bs)) ∧ w' = w := by
  have HE := Lib.hid h
  have HB := Lib.hid hb
  clear h hb
  go_enter Tryz.func95, Tryz.ntmps95
  go_wp2_with fail
  go_loopg [3, 8] bs.length (fun gk s3 s8 wr => ∃ (i : Nat) (x : Int), s8 = .int .i64 i ∧ s3 = .int .u64 x ∧ i ≤ bs.length ∧ bs.length - i ≤ gk ∧ wr = w ∧ Hid (x = (bs.take i).foldl hstep 14695981039346656037))
  case atStart => exact ⟨0, 14695981039346656037, rfl, rfl, Nat.zero_le _, Nat.le_refl _, rfl, by show _ = _; rfl⟩
  case round =>
    obtain ⟨i, x, rfl, rfl, hi, hg, hwr, HX⟩ := hrel
    subst hwr
    by_cases hlt : i < bs.length
    · have hltz : (i : Int) < (bs.length : Int) := by omega
      have hsl := HE.out
      obtain ⟨b, off, rfl⟩ := hsl.plain bcells_len (by decide) (by intro e; rw [e] at hlt; exact absurd hlt (by simp))
      have c0 : wr.cell? ⟨b, off + i, none⟩ = some (.int .u8 (bs[i]'hlt)) := by
        have := hsl.cell bcells_len (i := i) (c := 0) hlt (by decide)
        simpa [bcells] using this
      obtain ⟨h0, h1⟩ := HB.out _ (List.getElem_mem hlt)
      have hx : (bs.take (i + 1)).foldl hstep 14695981039346656037 = hstep x (bs[i]'hlt) := by
        rw [List.take_succ_eq_append_getElem hlt, List.foldl_append, ← HX.out]; rfl
      have HXX := Lib.hid hx
      clear hx hsl
      generalize bs[i]'hlt = c at *
      go_wp2_with fail
      go_roundg (bs.length - (i + 1))
      case measure => omega
      case rel => exact ⟨i + 1, hstep x c, by go_num, rfl, by omega, Nat.le_refl _, rfl, HXX.out.symm⟩
    · have hltz : ¬ (i : Int) < (bs.length : Int) := by omega
      obtain rfl : i = bs.length := by omega
      have hx := HX.out
      rw [List.take_length] at hx
      have HX2 := Lib.hid hx
      clear hx HX
      go_wp2_with fail
      refine (stir_any x _).mono ?_
      rintro e w1 ⟨rfl, rfl⟩
      go_wp2_with fail
      go_ret
      exact ⟨by rw [HX2.out]; rfl, rfl⟩
set_option maxHeartbeats 2000000 in
theorem refHash_any (oa : Option Addr) (cap : Nat) (bs : List Int) (w : World) (h : SlAt bcells w (.slice oa bs.length cap) bs) (hb : ∀ c ∈ bs, 0 ≤ c ∧ c ≤ 255) (hl : bs.length ≤ 1000000) : Calls Tryz.prog 89 #[.slice oa bs.length cap] w fun e w' => e = .returned (.int .u64 (hashI bs)) ∧ w' = w := by
  have HE := Lib.hid h
  have HB := Lib.hid hb
  clear h hb
  go_enter Tryz.func89, Tryz.ntmps89
  go_wp2_with fail
  go_loopg [3, 8] bs.length (fun gk s3 s8 wr => ∃ (i : Nat) (x : Int), s8 = .int .i64 i ∧ s3 = .int .u64 x ∧ i ≤ bs.length ∧ bs.length - i ≤ gk ∧ wr = w ∧ Hid (x = (bs.take i).foldl hstep 14695981039346656037))
  case atStart => exact ⟨0, 14695981039346656037, rfl, rfl, Nat.zero_le _, Nat.le_refl _, rfl, by show _ = _; rfl⟩
  case round =>
    obtain ⟨i, x, rfl, rfl, hi, hg, hwr, HX⟩ := hrel
    subst hwr
    by_cases hlt : i < bs.length
    · have hltz : (i : Int) < (bs.length : Int) := by omega
      have hsl := HE.out
      obtain ⟨b, off, rfl⟩ := hsl.plain bcells_len (by decide) (by intro e; rw [e] at hlt; exact absurd hlt (by simp))
      have c0 : wr.cell? ⟨b, off + i, none⟩ = some (.int .u8 (bs[i]'hlt)) := by
        have := hsl.cell bcells_len (i := i) (c := 0) hlt (by decide)
        simpa [bcells] using this
      obtain ⟨h0, h1⟩ := HB.out _ (List.getElem_mem hlt)
      have hx : (bs.take (i + 1)).foldl hstep 14695981039346656037 = hstep x (bs[i]'hlt) := by
        rw [List.take_succ_eq_append_getElem hlt, List.foldl_append, ← HX.out]; rfl
      have HXX := Lib.hid hx
      clear hx hsl
      generalize bs[i]'hlt = c at *
      go_wp2_with fail
      go_roundg (bs.length - (i + 1))
      case measure => omega
      case rel => exact ⟨i + 1, hstep x c, by go_num, rfl, by omega, Nat.le_refl _, rfl, HXX.out.symm⟩
    · have hltz : ¬ (i : Int) < (bs.length : Int) := by omega
      obtain rfl : i = bs.length := by omega
      have hx := HX.out
      rw [List.take_length] at hx
      have HX2 := Lib.hid hx
      clear hx HX
      go_wp2_with fail
      refine (refStir_any x _).mono ?_
      rintro e w1 ⟨rfl, rfl⟩
      go_wp2_with fail
      go_ret
      exact ⟨by rw [HX2.out]; rfl, rfl⟩
end Go.Proofs.YtjgbflclhkeibaaGreat
namespace Go.Proofs.YtjgbflclhkeibaaGreat
open Go.Shelf Go.RowKit Go.Lib Go.Sort
set_option linter.unusedVariables false
theorem infoByte : (Tryz.prog.info? 5).map (fun i => (i.zero, i.size, i.bytes)) = some (some (.int .u8 0), 1, 1) := by kernel_rfl
theorem slAt_slice' {α : Type} {enc : α → List Value} {w : World} {v : Value} {l : List α} (h : SlAt enc w v l) : ∃ oa cap, v = .slice oa l.length cap := by
  obtain ⟨oa, cap, hv, _⟩ := h.slice_of
  exact ⟨oa, cap, hv⟩
def byteAt (n : Int) (i : Nat) : Int := n / 2 ^ (8 * i) % 256
def bytesTo (n : Int) (k : Nat) : List Int := (List.range k).map (byteAt n)
theorem bytesTo_succ (n : Int) (k : Nat) : bytesTo n (k + 1) = bytesTo n k ++ [byteAt n k] := by
  unfold bytesTo
  rw [List.range_succ, List.map_append]
  rfl
theorem bytesTo_len (n : Int) (k : Nat) : (bytesTo n k).length = k := by simp [bytesTo]
theorem byteAt_bounds (n : Int) (i : Nat) : 0 ≤ byteAt n i ∧ byteAt n i ≤ 255 := by unfold byteAt; omega
theorem bytesTo_bounds (n : Int) (k : Nat) : ∀ c ∈ bytesTo n k, 0 ≤ c ∧ c ≤ 255 := fun c hc => by
  obtain ⟨i, _, rfl⟩ := List.mem_map.1 hc
  exact byteAt_bounds n i

/-- a captured slice of bytes: its cell holds a row of the call's own -/
structure BoxAt (B g : Nat) (w : World) (bs : List Int) (ob : Option Addr) (cb : Nat) : Prop where
  heap : w.heap[g]? = some (.cells #[.slice ob bs.length cb] 138)
  own : Owns bcells 1 B 5 w (.slice ob bs.length cb) bs
  ne : (Value.slice ob bs.length cb).ownBlock ≠ some g
  low : B ≤ g
theorem BoxAt.cell {B g : Nat} {w : World} {bs : List Int} {ob : Option Addr} {cb : Nat} (h : BoxAt B g w bs ob cb) : w.cell? ⟨g, 0, none⟩ = some (.slice ob bs.length cb) := by
  rw [cell_of_row _ g 0 _ _ _ h.heap]; rfl
theorem BoxAt.frozen {B g : Nat} {w : World} {bs : List Int} {ob : Option Addr} {cb : Nat} (h : BoxAt B g w bs ob cb) : w.frozen? ⟨g, 0, none⟩ = false := by
  simp [World.frozen?, h.heap]
theorem BoxAt.lt {B g : Nat} {w : World} {bs : List Int} {ob : Option Addr} {cb : Nat} (h : BoxAt B g w bs ob cb) : g < w.heap.size := (Array.getElem?_eq_some_iff.1 h.heap).1
theorem heap_setCell_same (w : World) (g o : Nat) (v : Value) (cur : Array Value) (e : TypeId) (fr : Nat × Nat) (h : w.heap[g]? = some (.cells cur e fr)) : (w.setCell ⟨g, o, none⟩ v).heap[g]? = some (.cells (cur.setIfInBounds o v) e fr) := by
  rw [setCell_eq]
  simp [mapBlock, Array.getElem?_modify, h, onCells]
theorem BoxAt.push {B g : Nat} {wr w1 w4 : World} {q q' : List Int} {oq o4 : Option Addr} {cq c4 : Nat} (h : BoxAt B g wr q oq cq) (h1 : Onto wr w1) (h4 : Owns bcells 1 B 5 w4 (.slice o4 q'.length c4) q') (hg : w1.grownBy w4 (Value.slice oq q.length cq).ownBlock)
    (hv : (Value.slice o4 q'.length c4).ownBlock = (Value.slice oq q.length cq).ownBlock ∨ ∀ k, (Value.slice o4 q'.length c4).ownBlock = some k → w1.heap.size ≤ k) :
    w4.cell? ⟨g, 0, none⟩ = some (.slice oq q.length cq) ∧ w4.frozen? ⟨g, 0, none⟩ = false ∧ BoxAt B g (w4.setCell ⟨g, 0, none⟩ (.slice o4 q'.length c4)) q' o4 c4 := by
  have hz := h1.below.size
  have hlt := h.lt
  have hh : w4.heap[g]? = some (.cells #[.slice oq q.length cq] 138) := by
    rw [hg.block g (by omega) (fun e => h.ne e.symm), h1.below.block g hlt]
    exact h.heap
  have hne : (Value.slice o4 q'.length c4).ownBlock ≠ some g := by
    intro e
    rcases hv with hv | hv
    · exact h.ne (hv ▸ e)
    · have := hv g e; omega
  refine ⟨by rw [cell_of_row _ g 0 _ _ _ hh]; rfl, by simp [World.frozen?, hh], ⟨?_, ?_, hne, h.low⟩⟩
  · rw [heap_setCell_same _ g 0 _ _ _ _ hh]
    rfl
  · exact h4.keep fun k hk => Below.heap_setCell _ _ _ k fun e => hne (by rw [hk, e])
set_option maxRecDepth 100000 in
set_option maxHeartbeats 4000000 in
theorem put_any (n : Int) (h0 : 0 ≤ n) (h1 : n < 18446744073709551616) (B g : Nat) (bs : List Int) (ob : Option Addr) (cb : Nat) (w0 w : World) (hB : B = w0.heap.size) (ho : Onto w0 w) (h : BoxAt B g w bs ob cb) (hl : bs.length ≤ 1000) :
    Calls Tryz.prog 94 #[.int .u64 n, .pointer (some ⟨g, 0, none⟩)] w fun e w' => e = .returned (.tuple #[]) ∧ ∃ ob' cb', BoxAt B g w' (bs ++ bytesTo n 8) ob' cb' ∧ Onto w0 w' := by
  have HO := Lib.hid ho
  have HX := Lib.hid h
  clear ho h
  go_enter Tryz.func94, Tryz.ntmps94
  go_wp2_with fail
  go_loopg [3] 8 (fun gk s3 wr => ∃ (i : Nat) (oq : Option Addr) (cq : Nat), s3 = .int .i64 ((8 * i : Nat) : Int) ∧ i ≤ 8 ∧ 8 - i ≤ gk ∧ Hid (BoxAt B g wr (bs ++ bytesTo n i) oq cq) ∧ Hid (Onto w0 wr))
  case atStart => exact ⟨0, ob, cb, rfl, Nat.zero_le _, Nat.le_refl _, by show BoxAt _ _ _ _ _ _; rw [show bytesTo n 0 = [] from rfl, List.append_nil]; exact HX.out, HO⟩
  case round =>
    obtain ⟨i, oq, cq, rfl, hi, hg, HBX, HOX⟩ := hrel
    have hlen : (bs ++ bytesTo n i).length = bs.length + i := by rw [List.length_append, bytesTo_len]
    by_cases hlt : i < 8
    · have hltz : ((8 * i : Nat) : Int) < 64 := by omega
      have hby : IntKind.u8.wrap (n / 2 ^ (8 * (i : Int)).toNat) = byteAt n i := by
        rw [IntKind.wrap_u8, show (8 * (i : Int)).toNat = 8 * i by omega]
        rfl
      have hnx : Hid (bs ++ bytesTo n (i + 1) = (bs ++ bytesTo n i) ++ [byteAt n i]) := by show _ = _; rw [bytesTo_succ, List.append_assoc]
      have hq : (bs ++ bytesTo n i).length ≤ 2000 := by omega
      clear hlen
      generalize bs ++ bytesTo n i = q at *
      have hcell := HBX.out.cell
      have hfr := HBX.out.frozen
      have hltg := HBX.out.lt
      generalize byteAt n i = c at *
      have hmx : Tryz.prog.follows .mixedOrders = true := by kernel_rfl
      go_wp2_with fail
      go_region_law (first
        | (refine step_appD bcells 1 bcells_len (by decide) bcells_one _ rfl _ _ 138 rfl B 5 _ 1 Tryz.underlying138 infoByte rfl (.slice oq q.length cq) q rfl (HBX.out.own.below ((Onto.refl wr).drew.alloc (.cells (bcells c).toArray 5)).below (Nat.le_refl _)) _ [c] rfl (slAt_new (enc := bcells) wr.drew (bcells c).toArray 5 1 1 (0, 0) [c] rfl rfl (by decide)) (by simp only [List.length_cons, List.length_nil]; omega) (by simp only [List.length_cons, List.length_nil]; omega) (by have := HOX.out.below.size; simp; omega) ?_
           intro v4 w4 h4 hg4 hv4 hd4
           obtain ⟨o4, c4, rfl⟩ := slAt_slice' h4.at
           obtain ⟨hc4, hf4, hx4⟩ := HBX.out.push ((Onto.refl wr).drew.alloc (.cells (bcells c).toArray 5)) h4 hg4 hv4
           have hx5 : BoxAt B g (w4.setCell ⟨g, 0, none⟩ (.slice o4 (q.length + 1) c4)) (q ++ [c]) o4 c4 := by
             rw [List.length_append, List.length_cons, List.length_nil] at hx4
             exact hx4
           have HX5 := Lib.hid hx5
           have HO5 := Lib.hid (((HOX.out.trans ((Onto.refl wr).drew.alloc (.cells (bcells c).toArray 5))).grown hg4 (fun k hk => by have := (HBX.out.own.lt k hk).1; omega) hd4).setCell (p := ⟨g, 0, none⟩) (by have := HBX.out.low; simp only; omega) (.slice o4 (q.length + 1) c4))
           clear h4 hg4 hv4 hd4 hx4 hx5))
      all_goals
        clear hc4 hf4 hcell hfr hby
        generalize w4.setCell ⟨g, 0, none⟩ (.slice o4 (q.length + 1) c4) = w5 at *
        go_wp2_with fail
        go_roundg (8 - (i + 1))
        case measure => omega
        case rel => exact ⟨i + 1, o4, c4, by first | go_num | (congr 1; omega), by omega, Nat.le_refl _, by show BoxAt _ _ _ _ _ _; rw [hnx.out]; exact HX5.out, HO5⟩
    · have hltz : ¬ ((8 * i : Nat) : Int) < 64 := by omega
      obtain rfl : i = 8 := by omega
      go_wp2_with fail
      go_end0
      subst hB
      exact ⟨rfl, ⟨oq, cq, HBX.out⟩, HOX.out⟩
def u64of (n : Int) : Int := IntKind.u64.wrap n
theorem u64of_bounds (n : Int) : 0 ≤ u64of n ∧ u64of n < 18446744073709551616 := by unfold u64of; rw [IntKind.wrap_u64]; omega
def weightI (node work salt : Int) : Int := hashI (bytesTo (u64of node) 8 ++ bytesTo (u64of work) 8 ++ bytesTo salt 8)
set_option maxRecDepth 100000 in
set_option maxHeartbeats 4000000 in
theorem weight_any (node work salt : Int) (h0 : 0 ≤ salt) (h1 : salt < 18446744073709551616) (w : World) :
    Calls Tryz.prog 76 #[.int .i64 node, .int .i64 work, .int .u64 salt] w fun e w' => e = .returned (.int .u64 (weightI node work salt)) ∧ Onto w w' := by
  have eg : ∀ args w, (callFunc 94 args).run Tryz.prog w = .ok (.enter 94 args) w := enters_of Tryz.func94 (by kernel_rfl) rfl
  obtain ⟨n0, n1⟩ := u64of_bounds node
  obtain ⟨k0, k1⟩ := u64of_bounds work
  have en : IntKind.u64.wrap node = u64of node := rfl
  have ek : IntKind.u64.wrap work = u64of work := rfl
  have hb0 : BoxAt w.heap.size w.heap.size (w.alloc (.cells #[.slice none 0 0] 138)) [] none 0 := ⟨heap_alloc_new w _, Owns.nil _ _ _ _ _, by simp [Value.ownBlock], Nat.le_refl _⟩
  have HB0 := Lib.hid hb0
  clear hb0
  go_enter Tryz.func76, Tryz.ntmps76
  go_wp2_with fail
  refine (put_any (u64of node) n0 n1 w.heap.size w.heap.size [] none 0 w _ rfl ((Onto.refl w).alloc _) HB0.out (by simp)).mono ?_
  rintro e w1 ⟨rfl, o1, c1, hx1, ho1⟩
  have HX1 := Lib.hid hx1
  have HO1 := Lib.hid ho1
  clear hx1 ho1
  go_wp2_with fail
  refine (put_any (u64of work) k0 k1 w.heap.size w.heap.size _ o1 c1 w w1 rfl HO1.out HX1.out (by simp [bytesTo_len])).mono ?_
  rintro e w2 ⟨rfl, o2, c2, hx2, ho2⟩
  have HX2 := Lib.hid hx2
  have HO2 := Lib.hid ho2
  clear hx2 ho2 HX1 HO1
  go_wp2_with fail
  refine (put_any salt h0 h1 w.heap.size w.heap.size _ o2 c2 w w2 rfl HO2.out HX2.out (by simp [bytesTo_len])).mono ?_
  rintro e w3 ⟨rfl, o3, c3, hx3, ho3⟩
  have HX3 := Lib.hid hx3
  have HO3 := Lib.hid ho3
  clear hx3 ho3 HX2 HO2
  rw [List.nil_append] at HX3
  have hcell := HX3.out.cell
  have hbs : ∀ c ∈ bytesTo (u64of node) 8 ++ bytesTo (u64of work) 8 ++ bytesTo salt 8, 0 ≤ c ∧ c ≤ 255 := fun c hc => by
    rcases List.mem_append.1 hc with hc | hc
    · rcases List.mem_append.1 hc with hc | hc
      · exact bytesTo_bounds _ _ c hc
      · exact bytesTo_bounds _ _ c hc
    · exact bytesTo_bounds _ _ c hc
  have hln : (bytesTo (u64of node) 8 ++ bytesTo (u64of work) 8 ++ bytesTo salt 8).length ≤ 1000000 := by simp [bytesTo_len]
  have hh := hash_any o3 c3 _ w3 HX3.out.own.at hbs hln
  have hwe : hashI (bytesTo (u64of node) 8 ++ bytesTo (u64of work) 8 ++ bytesTo salt 8) = weightI node work salt := rfl
  rw [hwe] at hh
  have HH := Lib.hid hh
  clear hh hwe hbs hln
  generalize bytesTo (u64of node) 8 ++ bytesTo (u64of work) 8 ++ bytesTo salt 8 = bs at *
  go_wp2_with fail
  refine HH.out.mono ?_
  rintro e w4 ⟨rfl, rfl⟩
  go_wp2_with fail
  go_ret
  exact ⟨rfl, HO3.out⟩
set_option maxRecDepth 100000 in
set_option maxHeartbeats 4000000 in
theorem eight_any (n : Int) (h0 : 0 ≤ n) (h1 : n < 18446744073709551616) (w : World) :
    Calls Tryz.prog 88 #[.int .u64 n] w fun e w' => ∃ ob cb, e = .returned (.slice ob 8 cb) ∧ Owns bcells 1 w.heap.size 5 w' (.slice ob 8 cb) (bytesTo n 8) ∧ Below w.heap.size w w' := by
  go_enter Tryz.func88, Tryz.ntmps88
  go_wp2_with fail
  go_loopg [0, 3, 4] 8 (fun gk s0 s3 s4 wr => ∃ (i : Nat) (x : Int) (oq : Option Addr) (cq : Nat), s4 = .int .i64 i ∧ s3 = .slice oq i cq ∧ s0 = .int .u64 x ∧ i ≤ 8 ∧ 8 - i ≤ gk ∧ 0 ≤ x ∧ x < 18446744073709551616 ∧ Hid (x = n / 2 ^ (8 * i)) ∧ Hid (Owns bcells 1 w.heap.size 5 wr (.slice oq i cq) (bytesTo n i)) ∧ Hid (Below w.heap.size w wr))
  case atStart => exact ⟨0, n, none, 0, rfl, rfl, rfl, Nat.zero_le _, Nat.le_refl _, h0, h1, by show _ = _; simp, Owns.nil _ _ _ _ _, Below.refl _ _⟩
  case round =>
    obtain ⟨i, x, oq, cq, rfl, rfl, rfl, hi, hg, hx0, hx1, HX, HO, HB⟩ := hrel
    by_cases hlt : i < 8
    · have hltz : (i : Int) < 8 := by omega
      have hq := bytesTo_len n i
      have hnx : Hid (bytesTo n (i + 1) = bytesTo n i ++ [byteAt n i]) := bytesTo_succ n i
      have hby : x % 256 = byteAt n i := by rw [HX.out]; rfl
      have hx2 : Hid (x / 256 = n / 2 ^ (8 * (i + 1))) := by
        show _ = _
        rw [HX.out, Int.ediv_ediv_of_nonneg (by exact Int.le_of_lt (Int.pow_pos (by decide)))]
        congr 1
        rw [show 8 * (i + 1) = 8 * i + 8 by omega, Int.pow_add]
        rfl
      obtain ⟨hc0, hc1⟩ := byteAt_bounds n i
      generalize byteAt n i = c at *
      generalize hqq : bytesTo n i = q at *
      have HQ := Lib.hid hq
      clear hq hqq
      go_wp2_with (at_builtin; go_loud (refine wpList_appD bcells 1 bcells_len (by decide) bcells_one _ rfl _ _ 138 rfl w.heap.size 5 _ 1 Tryz.underlying138 infoByte rfl _ q rfl ?h1 _ [c] rfl ?h2 ?h3 ?h4 ?h5 ?_))
      case h1 => exact HO.out.below ((Below.refl _ _).alloc (Nat.le_refl _) _) (Nat.le_refl _)
      case h2 => exact slAt_new (enc := bcells) wr (bcells c).toArray 5 1 1 (0, 0) [c] rfl rfl (by decide)
      case h3 => have := HQ.out; simp only [List.length_cons, List.length_nil]; omega
      case h4 => have := HQ.out; simp only [List.length_cons, List.length_nil]; omega
      case h5 => have := HB.out.size; simp; omega
      intro v4 w4 h4 hg4 hv4 hd4
      obtain ⟨o4, c4, hv⟩ := slAt_slice' h4.at
      rw [List.length_append, HQ.out, List.length_cons, List.length_nil] at hv
      subst hv
      rw [← hnx.out] at h4
      have hb4 : Below w.heap.size w w4 := HB.out.trans (((Below.refl _ _).alloc HB.out.size _).grown hg4 (by have := HB.out.size; simp; omega) fun k hk => (HO.out.lt k hk).1)
      have HO4 := Lib.hid h4
      have HB4 := Lib.hid hb4
      clear h4 hg4 hv4 hd4 hb4 hby
      obtain ⟨x2, hxx⟩ : ∃ x2, x2 = x / 256 := ⟨_, rfl⟩
      have hx20 : 0 ≤ x2 := by omega
      have hx21 : x2 < 18446744073709551616 := by omega
      have HXX := Lib.hid hxx
      clear hxx
      go_wp2_with fail
      go_roundg (8 - (i + 1))
      case measure => omega
      case rel => exact ⟨i + 1, x2, o4, c4, by go_num, rfl, by rw [HXX.out], by omega, Nat.le_refl _, hx20, hx21, by show _ = _; rw [HXX.out, hx2.out], HO4, HB4⟩
    · have hltz : ¬ (i : Int) < 8 := by omega
      obtain rfl : i = 8 := by omega
      go_wp2_with fail
      go_ret
      exact ⟨oq, cq, rfl, HO.out, HB.out⟩
set_option maxRecDepth 100000 in
set_option maxHeartbeats 4000000 in
theorem refWeight_any (node work salt : Int) (h0 : 0 ≤ salt) (h1 : salt < 18446744073709551616) (w : World) :
    Calls Tryz.prog 67 #[.int .i64 node, .int .i64 work, .int .u64 salt] w fun e w' => e = .returned (.int .u64 (weightI node work salt)) ∧ Below w.heap.size w w' := by
  obtain ⟨n0, n1⟩ := u64of_bounds node
  obtain ⟨k0, k1⟩ := u64of_bounds work
  have en : IntKind.u64.wrap node = u64of node := rfl
  have ek : IntKind.u64.wrap work = u64of work := rfl
  go_enter Tryz.func67, Tryz.ntmps67
  go_wp2_with fail
  refine (eight_any (u64of node) n0 n1 _).mono ?_
  rintro e w1 ⟨o1, c1, rfl, hs1, hb1⟩
  have HS1 := Lib.hid hs1
  have HB1 := Lib.hid hb1
  clear hs1 hb1
  go_wp2_with fail
  refine (eight_any (u64of work) k0 k1 _).mono ?_
  rintro e w2 ⟨o2, c2, rfl, hs2, hb2⟩
  have HS1' := Lib.hid (HS1.out.below hb2 (Nat.le_refl _))
  have HS2 := Lib.hid hs2
  have HB2 := Lib.hid (HB1.out.trans (hb2.mono HB1.out.size))
  have hz2 := HB2.out.size
  clear hs2 hb2 HS1 HB1
  go_wp2_with (at_builtin; go_loud (refine wpList_appD bcells 1 bcells_len (by decide) bcells_one _ rfl _ _ 138 rfl w.heap.size 5 _ 1 Tryz.underlying138 infoByte rfl _ (bytesTo (u64of node) 8) rfl ?h1 _ (bytesTo (u64of work) 8) rfl ?h2 ?h3 ?h4 ?h5 ?_))
  case h1 => exact HS1'.out
  case h2 => exact HS2.out.at
  case h3 => simp [bytesTo_len]
  case h4 => simp [bytesTo_len]
  case h5 => exact hz2
  intro v3 w3 h3 hg3 hv3 hd3
  obtain ⟨o3, c3, rfl⟩ := slAt_slice' h3.at
  have HB3 := Lib.hid (HB2.out.grown hg3 hz2 fun k hk => (HS1'.out.lt k hk).1)
  have HS3 := Lib.hid h3
  have hl3 : (bytesTo (u64of node) 8 ++ bytesTo (u64of work) 8).length = 16 := by simp [bytesTo_len]
  clear h3 hg3 hv3 hd3 HS1' HS2 HB2 hz2
  rw [hl3] at HS3 ⊢
  have HL3 := Lib.hid hl3
  clear hl3
  go_wp2_with fail
  refine (eight_any salt h0 h1 _).mono ?_
  rintro e w4 ⟨o4, c4, rfl, hs4, hb4⟩
  have HS3' := Lib.hid (HS3.out.below hb4 (Nat.le_refl _))
  have HS4 := Lib.hid hs4
  have HB4 := Lib.hid (HB3.out.trans (hb4.mono HB3.out.size))
  have hz4 := HB4.out.size
  clear hs4 hb4 HS3 HB3
  go_wp2_with (at_builtin; go_loud (refine wpList_appD bcells 1 bcells_len (by decide) bcells_one _ rfl _ _ 138 rfl w.heap.size 5 _ 1 Tryz.underlying138 infoByte rfl _ (bytesTo (u64of node) 8 ++ bytesTo (u64of work) 8) rfl ?h1 _ (bytesTo salt 8) rfl ?h2 ?h3 ?h4 ?h5 ?_))
  case h1 => exact HS3'.out
  case h2 => exact HS4.out.at
  case h3 => simp [bytesTo_len]
  case h4 => simp [bytesTo_len]
  case h5 => exact hz4
  intro v5 w5 h5 hg5 hv5 hd5
  rw [← List.append_assoc] at h5
  obtain ⟨o5, c5, rfl⟩ := slAt_slice' h5.at
  have HB5 := Lib.hid (HB4.out.grown hg5 hz4 fun k hk => (HS3'.out.lt k hk).1)
  have hbs : ∀ c ∈ bytesTo (u64of node) 8 ++ bytesTo (u64of work) 8 ++ bytesTo salt 8, 0 ≤ c ∧ c ≤ 255 := fun c hc => by
    rcases List.mem_append.1 hc with hc | hc
    · rcases List.mem_append.1 hc with hc | hc
      · exact bytesTo_bounds _ _ c hc
      · exact bytesTo_bounds _ _ c hc
    · exact bytesTo_bounds _ _ c hc
  have hln : (bytesTo (u64of node) 8 ++ bytesTo (u64of work) 8 ++ bytesTo salt 8).length ≤ 1000000 := by simp [bytesTo_len]
  have hh := refHash_any o5 c5 _ w5 h5.at hbs hln
  have hwe : hashI (bytesTo (u64of node) 8 ++ bytesTo (u64of work) 8 ++ bytesTo salt 8) = weightI node work salt := rfl
  rw [hwe] at hh
  have HH := Lib.hid hh
  clear hh hwe hbs hln h5 hg5 hv5 hd5 HS3' HS4 HL3
  generalize bytesTo (u64of node) 8 ++ bytesTo (u64of work) 8 ++ bytesTo salt 8 = bs at *
  go_wp2_with fail
  refine HH.out.mono ?_
  rintro e w6 ⟨rfl, rfl⟩
  go_wp2_with fail
  go_ret
  exact ⟨rfl, HB5.out⟩
end Go.Proofs.YtjgbflclhkeibaaGreat
