/-
  Both mixings: stir, Hash and Weight, of the program and of the reference: the same number of the same bytes.
  Both weights: of a node for a workload, the same number of the same 24 bytes.
-/
import Derived.Test.YtjgbflclhkeibaaMRd
import Derived.Deep.DeepCutAuto
import Derived.Shelf.Abstract
namespace Go.Proofs.Ytjgbflclhkeibaa
open Go.RowKit Go.Lib Go.Sort
set_option linter.unusedVariables false
def bcells (c : Int) : List Value := [.int .u8 c]
theorem bcells_len (c : Int) : (bcells c).length = 1 := rfl
theorem bcells_one : ∀ (c : Int), ∀ u ∈ bcells c, u.oneCell' = true := fun c u hu => by
  obtain rfl : u = .int .u8 c := by simpa [bcells] using hu
  rfl
def mix1 (x : Int) : Int := IntKind.u64.wrap (bits BinOp.xor IntKind.u64 x (x / 1073741824) * 13787848793156543929)
def mix2 (x : Int) : Int := IntKind.u64.wrap (bits BinOp.xor IntKind.u64 x (x / 134217728) * 10723151780598845931)
def stirI (x : Int) : Int := bits BinOp.xor IntKind.u64 (mix2 (mix1 x)) (mix2 (mix1 x) / 2147483648)
def hstep (x c : Int) : Int := IntKind.u64.wrap (bits BinOp.xor IntKind.u64 x c * 1099511628211)
def hashI (bs : List Int) : Int := stirI (bs.foldl hstep 14695981039346656037)
set_option maxHeartbeats 1000000 in
theorem stir_any (x : Int) (W : World) : Calls Try.prog 80 #[.int .u64 x] W fun e w' => e = .returned (.int .u64 (stirI x)) ∧ w' = W := by
  go_enter Try.func80, Try.ntmps80
  go_wp2_with fail
  go_ret
  exact ⟨rfl, rfl⟩
set_option maxHeartbeats 2000000 in
theorem hash_any (oa : Option Addr) (cap : Nat) (bs : List Int) (w : World) (h : SlAt bcells w (.slice oa bs.length cap) bs) (hb : ∀ c ∈ bs, 0 ≤ c ∧ c ≤ 255) (hl : bs.length ≤ 1000000) : Calls Try.prog 61 #[.slice oa bs.length cap] w fun e w' => e = .returned (.int .u64 (hashI bs)) ∧ w' = w := by
  have HE := Lib.hid h
  have HB := Lib.hid hb
  clear h hb
  go_enter Try.func61, Try.ntmps61
  go_wp2_with fail
  go_loopg [3, 8] bs.length (fun gk s3 s8 wr => ∃ (i : Nat) (x : Int), s8 = .int .i64 i ∧ s3 = .int .u64 x ∧ i ≤ bs.length ∧ bs.length - i ≤ gk ∧ wr = w ∧ Hid (x = (bs.take i).foldl hstep 14695981039346656037))
  case atStart => exact ⟨0, 14695981039346656037, rfl, rfl, Nat.zero_le _, Nat.le_refl _, rfl, by show _ = _; rfl⟩
  case round =>
    obtain ⟨i, x, rfl, rfl, hi, hg, hwr, HX⟩ := hrel
    subst hwr
    by_cases hlt : i < bs.length
    · have hltz : (i : Int) < (bs.length : Int) := by omega
      have hsl := HE.out
      obtain ⟨b, off, rfl⟩ := hsl.plain bcells_len (by decide) (by intro e; rw [e] at hlt; exact absurd hlt (by simp))
      have c0 : wr.cell? ⟨b, off + i, none⟩ = some (.int .u8 (bs[i]'hlt)) := by
        have := hsl.cell bcells_len (i := i) (c := 0) hlt (by decide)
        simpa [bcells] using this
      obtain ⟨h0, h1⟩ := HB.out _ (List.getElem_mem hlt)
      have hx : (bs.take (i + 1)).foldl hstep 14695981039346656037 = hstep x (bs[i]'hlt) := by
        rw [List.take_succ_eq_append_getElem hlt, List.foldl_append, ← HX.out]; rfl
      have HXX := Lib.hid hx
      clear hx hsl
      generalize bs[i]'hlt = c at *
      go_wp2_with fail
      go_roundg (bs.length - (i + 1))
      case measure => omega
      case rel => exact ⟨i + 1, hstep x c, by go_num, rfl, by omega, Nat.le_refl _, rfl, HXX.out.symm⟩
    · have hltz : ¬ (i : Int) < (bs.length : Int) := by omega
      obtain rfl : i = bs.length := by omega
      have hx := HX.out
      rw [List.take_length] at hx
      have HX2 := Lib.hid hx
      clear hx HX
      go_wp2_with fail
      refine (stir_any x _).mono ?_
      rintro e w1 ⟨rfl, rfl⟩
      go_wp2_with fail
      go_ret
      exact ⟨by rw [HX2.out]; rfl, rfl⟩
end Go.Proofs.Ytjgbflclhkeibaa
namespace Go.Proofs.Ytjgbflclhkeibaa
open Go.Shelf Go.RowKit Go.Lib Go.Sort
set_option linter.unusedVariables false
theorem infoByte : (Try.prog.info? 5).map (fun i => (i.zero, i.size, i.bytes)) = some (some (.int .u8 0), 1, 1) := by kernel_rfl
theorem slAt_slice' {α : Type} {enc : α → List Value} {w : World} {v : Value} {l : List α} (h : SlAt enc w v l) : ∃ oa cap, v = .slice oa l.length cap := by
  obtain ⟨oa, cap, hv, _⟩ := h.slice_of
  exact ⟨oa, cap, hv⟩
def byteAt (n : Int) (i : Nat) : Int := n / 2 ^ (8 * i) % 256
def bytesTo (n : Int) (k : Nat) : List Int := (List.range k).map (byteAt n)
theorem bytesTo_succ (n : Int) (k : Nat) : bytesTo n (k + 1) = bytesTo n k ++ [byteAt n k] := by
  unfold bytesTo
  rw [List.range_succ, List.map_append]
  rfl
theorem bytesTo_len (n : Int) (k : Nat) : (bytesTo n k).length = k := by simp [bytesTo]
theorem byteAt_bounds (n : Int) (i : Nat) : 0 ≤ byteAt n i ∧ byteAt n i ≤ 255 := by unfold byteAt; omega
theorem bytesTo_bounds (n : Int) (k : Nat) : ∀ c ∈ bytesTo n k, 0 ≤ c ∧ c ≤ 255 := fun c hc => by
  obtain ⟨i, _, rfl⟩ := List.mem_map.1 hc
  exact byteAt_bounds n i

/-- a captured slice of bytes: its cell holds a row of the call's own -/
structure BoxAt (B g : Nat) (w : World) (bs : List Int) (ob : Option Addr) (cb : Nat) : Prop where
  heap : w.heap[g]? = some (.cells #[.slice ob bs.length cb] 126)
  own : Owns bcells 1 B 5 w (.slice ob bs.length cb) bs
  ne : (Value.slice ob bs.length cb).ownBlock ≠ some g
  low : B ≤ g
theorem BoxAt.cell {B g : Nat} {w : World} {bs : List Int} {ob : Option Addr} {cb : Nat} (h : BoxAt B g w bs ob cb) : w.cell? ⟨g, 0, none⟩ = some (.slice ob bs.length cb) := by
  rw [cell_of_row _ g 0 _ _ _ h.heap]; rfl
theorem BoxAt.frozen {B g : Nat} {w : World} {bs : List Int} {ob : Option Addr} {cb : Nat} (h : BoxAt B g w bs ob cb) : w.frozen? ⟨g, 0, none⟩ = false := by
  simp [World.frozen?, h.heap]
theorem BoxAt.lt {B g : Nat} {w : World} {bs : List Int} {ob : Option Addr} {cb : Nat} (h : BoxAt B g w bs ob cb) : g < w.heap.size := (Array.getElem?_eq_some_iff.1 h.heap).1
theorem heap_setCell_same (w : World) (g o : Nat) (v : Value) (cur : Array Value) (e : TypeId) (fr : Nat × Nat) (h : w.heap[g]? = some (.cells cur e fr)) : (w.setCell ⟨g, o, none⟩ v).heap[g]? = some (.cells (cur.setIfInBounds o v) e fr) := by
  rw [setCell_eq]
  simp [mapBlock, Array.getElem?_modify, h, onCells]
theorem BoxAt.push {B g : Nat} {wr w1 w4 : World} {q q' : List Int} {oq o4 : Option Addr} {cq c4 : Nat} (h : BoxAt B g wr q oq cq) (h1 : Onto wr w1) (h4 : Owns bcells 1 B 5 w4 (.slice o4 q'.length c4) q') (hg : w1.grownBy w4 (Value.slice oq q.length cq).ownBlock)
    (hv : (Value.slice o4 q'.length c4).ownBlock = (Value.slice oq q.length cq).ownBlock ∨ ∀ k, (Value.slice o4 q'.length c4).ownBlock = some k → w1.heap.size ≤ k) :
    w4.cell? ⟨g, 0, none⟩ = some (.slice oq q.length cq) ∧ w4.frozen? ⟨g, 0, none⟩ = false ∧ BoxAt B g (w4.setCell ⟨g, 0, none⟩ (.slice o4 q'.length c4)) q' o4 c4 := by
  have hz := h1.below.size
  have hlt := h.lt
  have hh : w4.heap[g]? = some (.cells #[.slice oq q.length cq] 126) := by
    rw [hg.block g (by omega) (fun e => h.ne e.symm), h1.below.block g hlt]
    exact h.heap
  have hne : (Value.slice o4 q'.length c4).ownBlock ≠ some g := by
    intro e
    rcases hv with hv | hv
    · exact h.ne (hv ▸ e)
    · have := hv g e; omega
  refine ⟨by rw [cell_of_row _ g 0 _ _ _ hh]; rfl, by simp [World.frozen?, hh], ⟨?_, ?_, hne, h.low⟩⟩
  · rw [heap_setCell_same _ g 0 _ _ _ _ hh]
    rfl
  · exact h4.keep fun k hk => Below.heap_setCell _ _ _ k fun e => hne (by rw [hk, e])
set_option maxRecDepth 100000 in
set_option maxHeartbeats 4000000 in
theorem put_any (n : Int) (h0 : 0 ≤ n) (h1 : n < 18446744073709551616) (B g : Nat) (bs : List Int) (ob : Option Addr) (cb : Nat) (w0 w : World) (hB : B = w0.heap.size) (ho : Onto w0 w) (h : BoxAt B g w bs ob cb) (hl : bs.length ≤ 1000) :
    Calls Try.prog 60 #[.int .u64 n, .pointer (some ⟨g, 0, none⟩)] w fun e w' => e = .returned (.tuple #[]) ∧ ∃ ob' cb', BoxAt B g w' (bs ++ bytesTo n 8) ob' cb' ∧ Onto w0 w' := by
  have HO := Lib.hid ho
  have HX := Lib.hid h
  clear ho h
  go_enter Try.func60, Try.ntmps60
  go_wp2_with fail
  go_loopg [3] 8 (fun gk s3 wr => ∃ (i : Nat) (oq : Option Addr) (cq : Nat), s3 = .int .i64 ((8 * i : Nat) : Int) ∧ i ≤ 8 ∧ 8 - i ≤ gk ∧ Hid (BoxAt B g wr (bs ++ bytesTo n i) oq cq) ∧ Hid (Onto w0 wr))
  case atStart => exact ⟨0, ob, cb, rfl, Nat.zero_le _, Nat.le_refl _, by show BoxAt _ _ _ _ _ _; rw [show bytesTo n 0 = [] from rfl, List.append_nil]; exact HX.out, HO⟩
  case round =>
    obtain ⟨i, oq, cq, rfl, hi, hg, HBX, HOX⟩ := hrel
    have hlen : (bs ++ bytesTo n i).length = bs.length + i := by rw [List.length_append, bytesTo_len]
    by_cases hlt : i < 8
    · have hltz : ((8 * i : Nat) : Int) < 64 := by omega
      have hby : IntKind.u8.wrap (n / 2 ^ (8 * (i : Int)).toNat) = byteAt n i := by
        rw [IntKind.wrap_u8, show (8 * (i : Int)).toNat = 8 * i by omega]
        rfl
      have hnx : Hid (bs ++ bytesTo n (i + 1) = (bs ++ bytesTo n i) ++ [byteAt n i]) := by show _ = _; rw [bytesTo_succ, List.append_assoc]
      have hq : (bs ++ bytesTo n i).length ≤ 2000 := by omega
      clear hlen
      generalize bs ++ bytesTo n i = q at *
      have hcell := HBX.out.cell
      have hfr := HBX.out.frozen
      have hltg := HBX.out.lt
      generalize byteAt n i = c at *
      have hmx : Try.prog.follows .mixedOrders = true := by kernel_rfl
      go_wp2_with fail
      go_region_law (first
        | (refine step_appD bcells 1 bcells_len (by decide) bcells_one _ rfl _ _ 126 rfl B 5 _ 1 Try.underlying126 infoByte rfl (.slice oq q.length cq) q rfl (HBX.out.own.below ((Onto.refl wr).drew.alloc (.cells (bcells c).toArray 5)).below (Nat.le_refl _)) _ [c] rfl (slAt_new (enc := bcells) wr.drew (bcells c).toArray 5 1 1 (0, 0) [c] rfl rfl (by decide)) (by simp only [List.length_cons, List.length_nil]; omega) (by simp only [List.length_cons, List.length_nil]; omega) (by have := HOX.out.below.size; simp; omega) ?_
           intro v4 w4 h4 hg4 hv4 hd4
           obtain ⟨o4, c4, rfl⟩ := slAt_slice' h4.at
           obtain ⟨hc4, hf4, hx4⟩ := HBX.out.push ((Onto.refl wr).drew.alloc (.cells (bcells c).toArray 5)) h4 hg4 hv4
           have hx5 : BoxAt B g (w4.setCell ⟨g, 0, none⟩ (.slice o4 (q.length + 1) c4)) (q ++ [c]) o4 c4 := by
             rw [List.length_append, List.length_cons, List.length_nil] at hx4
             exact hx4
           have HX5 := Lib.hid hx5
           have HO5 := Lib.hid (((HOX.out.trans ((Onto.refl wr).drew.alloc (.cells (bcells c).toArray 5))).grown hg4 (fun k hk => by have := (HBX.out.own.lt k hk).1; omega) hd4).setCell (p := ⟨g, 0, none⟩) (by have := HBX.out.low; simp only; omega) (.slice o4 (q.length + 1) c4))
           clear h4 hg4 hv4 hd4 hx4 hx5))
      all_goals
        clear hc4 hf4 hcell hfr hby
        generalize w4.setCell ⟨g, 0, none⟩ (.slice o4 (q.length + 1) c4) = w5 at *
        go_wp2_with fail
        go_roundg (8 - (i + 1))
        case measure => omega
        case rel => exact ⟨i + 1, o4, c4, by first | go_num | (congr 1; omega), by omega, Nat.le_refl _, by show BoxAt _ _ _ _ _ _; rw [hnx.out]; exact HX5.out, HO5⟩
    · have hltz : ¬ ((8 * i : Nat) : Int) < 64 := by omega
      obtain rfl : i = 8 := by omega
      go_wp2_with fail
      go_end0
      subst hB
      exact ⟨rfl, ⟨oq, cq, HBX.out⟩, HOX.out⟩
def u64of (n : Int) : Int := IntKind.u64.wrap n
theorem u64of_bounds (n : Int) : 0 ≤ u64of n ∧ u64of n < 18446744073709551616 := by unfold u64of; rw [IntKind.wrap_u64]; omega
def weightI (node work salt : Int) : Int := hashI (bytesTo (u64of node) 8 ++ bytesTo (u64of work) 8 ++ bytesTo salt 8)
set_option maxRecDepth 100000 in
set_option maxHeartbeats 4000000 in
theorem weight_any (node work salt : Int) (h0 : 0 ≤ salt) (h1 : salt < 18446744073709551616) (w : World) :
    Calls Try.prog 42 #[.int .i64 node, .int .i64 work, .int .u64 salt] w fun e w' => e = .returned (.int .u64 (weightI node work salt)) ∧ Onto w w' := by
  have eg : ∀ args w, (callFunc 60 args).run Try.prog w = .ok (.enter 60 args) w := enters_of Try.func60 (by kernel_rfl) rfl
  obtain ⟨n0, n1⟩ := u64of_bounds node
  obtain ⟨k0, k1⟩ := u64of_bounds work
  have en : IntKind.u64.wrap node = u64of node := rfl
  have ek : IntKind.u64.wrap work = u64of work := rfl
  have hb0 : BoxAt w.heap.size w.heap.size (w.alloc (.cells #[.slice none 0 0] 126)) [] none 0 := ⟨heap_alloc_new w _, Owns.nil _ _ _ _ _, by simp [Value.ownBlock], Nat.le_refl _⟩
  have HB0 := Lib.hid hb0
  clear hb0
  go_enter Try.func42, Try.ntmps42
  go_wp2_with fail
  refine (put_any (u64of node) n0 n1 w.heap.size w.heap.size [] none 0 w _ rfl ((Onto.refl w).alloc _) HB0.out (by simp)).mono ?_
  rintro e w1 ⟨rfl, o1, c1, hx1, ho1⟩
  have HX1 := Lib.hid hx1
  have HO1 := Lib.hid ho1
  clear hx1 ho1
  go_wp2_with fail
  refine (put_any (u64of work) k0 k1 w.heap.size w.heap.size _ o1 c1 w w1 rfl HO1.out HX1.out (by simp [bytesTo_len])).mono ?_
  rintro e w2 ⟨rfl, o2, c2, hx2, ho2⟩
  have HX2 := Lib.hid hx2
  have HO2 := Lib.hid ho2
  clear hx2 ho2 HX1 HO1
  go_wp2_with fail
  refine (put_any salt h0 h1 w.heap.size w.heap.size _ o2 c2 w w2 rfl HO2.out HX2.out (by simp [bytesTo_len])).mono ?_
  rintro e w3 ⟨rfl, o3, c3, hx3, ho3⟩
  have HX3 := Lib.hid hx3
  have HO3 := Lib.hid ho3
  clear hx3 ho3 HX2 HO2
  rw [List.nil_append] at HX3
  have hcell := HX3.out.cell
  have hbs : ∀ c ∈ bytesTo (u64of node) 8 ++ bytesTo (u64of work) 8 ++ bytesTo salt 8, 0 ≤ c ∧ c ≤ 255 := fun c hc => by
    rcases List.mem_append.1 hc with hc | hc
    · rcases List.mem_append.1 hc with hc | hc
      · exact bytesTo_bounds _ _ c hc
      · exact bytesTo_bounds _ _ c hc
    · exact bytesTo_bounds _ _ c hc
  have hln : (bytesTo (u64of node) 8 ++ bytesTo (u64of work) 8 ++ bytesTo salt 8).length ≤ 1000000 := by simp [bytesTo_len]
  have hh := hash_any o3 c3 _ w3 HX3.out.own.at hbs hln
  have hwe : hashI (bytesTo (u64of node) 8 ++ bytesTo (u64of work) 8 ++ bytesTo salt 8) = weightI node work salt := rfl
  rw [hwe] at hh
  have HH := Lib.hid hh
  clear hh hwe hbs hln
  generalize bytesTo (u64of node) 8 ++ bytesTo (u64of work) 8 ++ bytesTo salt 8 = bs at *
  go_wp2_with fail
  refine HH.out.mono ?_
  rintro e w4 ⟨rfl, rfl⟩
  go_wp2_with fail
  go_ret
  exact ⟨rfl, HO3.out⟩
end Go.Proofs.Ytjgbflclhkeibaa
