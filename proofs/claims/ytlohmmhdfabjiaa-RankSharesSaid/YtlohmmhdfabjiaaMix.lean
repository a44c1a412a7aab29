/-
  Both mixings: stir, Hash and Weight, of the program and of the reference: the same number of the same bytes.
-/
import Derived.Test.YtlohmmhdfabjiaaBase
import Derived.Deep.DeepCutAuto
namespace Go.Proofs.Ytlohmmhdfabjiaa
open Go.RowKit Go.Lib Go.Sort
set_option linter.unusedVariables false
def bcells (c : Int) : List Value := [.int .u8 c]
theorem bcells_len (c : Int) : (bcells c).length = 1 := rfl
theorem bcells_one : ∀ (c : Int), ∀ u ∈ bcells c, u.oneCell' = true := fun c u hu => by
  obtain rfl : u = .int .u8 c := by simpa [bcells] using hu
  rfl
def mix1 (x : Int) : Int := IntKind.u64.wrap (bits BinOp.xor IntKind.u64 x (x / 1073741824) * 13787848793156543929)
def mix2 (x : Int) : Int := IntKind.u64.wrap (bits BinOp.xor IntKind.u64 x (x / 134217728) * 10723151780598845931)
def stirI (x : Int) : Int := bits BinOp.xor IntKind.u64 (mix2 (mix1 x)) (mix2 (mix1 x) / 2147483648)
def hstep (x c : Int) : Int := IntKind.u64.wrap (bits BinOp.xor IntKind.u64 x c * 1099511628211)
def hashI (bs : List Int) : Int := stirI (bs.foldl hstep 14695981039346656037)
set_option maxHeartbeats 1000000 in
theorem stir_any (x : Int) (W : World) : Calls Try.prog 44 #[.int .u64 x] W fun e w' => e = .returned (.int .u64 (stirI x)) ∧ w' = W := by
  go_enter Try.func44, Try.ntmps44
  go_wp2_with fail
  go_ret
  exact ⟨rfl, rfl⟩
set_option maxHeartbeats 1000000 in
theorem refStir_any (x : Int) (W : World) : Calls Try.prog 47 #[.int .u64 x] W fun e w' => e = .returned (.int .u64 (stirI x)) ∧ w' = W := by
  go_enter Try.func47, Try.ntmps47
  go_wp2_with fail
  go_ret
  exact ⟨rfl, rfl⟩
set_option maxHeartbeats 2000000 in
theorem hash_any (oa : Option Addr) (cap : Nat) (bs : List Int) (w : World) (h : SlAt bcells w (.slice oa bs.length cap) bs) (hb : ∀ c ∈ bs, 0 ≤ c ∧ c ≤ 255) (hl : bs.length ≤ 1000000) : Calls Try.prog 29 #[.slice oa bs.length cap] w fun e w' => e = .returned (.int .u64 (hashI bs)) ∧ w' = w := by
  have HE := Lib.hid h
  have HB := Lib.hid hb
  clear h hb
  go_enter Try.func29, Try.ntmps29
  go_wp2_with fail
  go_loopg [3, 8] bs.length (fun gk s3 s8 wr => ∃ (i : Nat) (x : Int), s8 = .int .i64 i ∧ s3 = .int .u64 x ∧ i ≤ bs.length ∧ bs.length - i ≤ gk ∧ wr = w ∧ Hid (x = (bs.take i).foldl hstep 14695981039346656037))
  case atStart => exact ⟨0, 14695981039346656037, rfl, rfl, Nat.zero_le _, Nat.le_refl _, rfl, by show _ = _; rfl⟩
  case round =>
    obtain ⟨i, x, rfl, rfl, hi, hg, hwr, HX⟩ := hrel
    subst hwr
    by_cases hlt : i < bs.length
    · have hltz : (i : Int) < (bs.length : Int) := by omega
      have hsl := HE.out
      obtain ⟨b, off, rfl⟩ := hsl.plain bcells_len (by decide) (by intro e; rw [e] at hlt; exact absurd hlt (by simp))
      have c0 : wr.cell? ⟨b, off + i, none⟩ = some (.int .u8 (bs[i]'hlt)) := by
        have := hsl.cell bcells_len (i := i) (c := 0) hlt (by decide)
        simpa [bcells] using this
      obtain ⟨h0, h1⟩ := HB.out _ (List.getElem_mem hlt)
      have hx : (bs.take (i + 1)).foldl hstep 14695981039346656037 = hstep x (bs[i]'hlt) := by
        rw [List.take_succ_eq_append_getElem hlt, List.foldl_append, ← HX.out]; rfl
      have HXX := Lib.hid hx
      clear hx hsl
      generalize bs[i]'hlt = c at *
      go_wp2_with fail
      go_roundg (bs.length - (i + 1))
      case measure => omega
      case rel => exact ⟨i + 1, hstep x c, by go_num, rfl, by omega, Nat.le_refl _, rfl, HXX.out.symm⟩
    · have hltz : ¬ (i : Int) < (bs.length : Int) := by omega
      obtain rfl : i = bs.length := by omega
      have hx := HX.out
      rw [List.take_length] at hx
      have HX2 := Lib.hid hx
      clear hx HX
      go_wp2_with fail
      refine (stir_any x _).mono ?_
      rintro e w1 ⟨rfl, rfl⟩
      go_wp2_with fail
      go_ret
      exact ⟨by rw [HX2.out]; rfl, rfl⟩
set_option maxHeartbeats 2000000 in
theorem refHash_any (oa : Option Addr) (cap : Nat) (bs : List Int) (w : World) (h : SlAt bcells w (.slice oa bs.length cap) bs) (hb : ∀ c ∈ bs, 0 ≤ c ∧ c ≤ 255) (hl : bs.length ≤ 1000000) : Calls Try.prog 32 #[.slice oa bs.length cap] w fun e w' => e = .returned (.int .u64 (hashI bs)) ∧ w' = w := by
  have HE := Lib.hid h
  have HB := Lib.hid hb
  clear h hb
  go_enter Try.func32, Try.ntmps32
  go_wp2_with fail
  go_loopg [3, 8] bs.length (fun gk s3 s8 wr => ∃ (i : Nat) (x : Int), s8 = .int .i64 i ∧ s3 = .int .u64 x ∧ i ≤ bs.length ∧ bs.length - i ≤ gk ∧ wr = w ∧ Hid (x = (bs.take i).foldl hstep 14695981039346656037))
  case atStart => exact ⟨0, 14695981039346656037, rfl, rfl, Nat.zero_le _, Nat.le_refl _, rfl, by show _ = _; rfl⟩
  case round =>
    obtain ⟨i, x, rfl, rfl, hi, hg, hwr, HX⟩ := hrel
    subst hwr
    by_cases hlt : i < bs.length
    · have hltz : (i : Int) < (bs.length : Int) := by omega
      have hsl := HE.out
      obtain ⟨b, off, rfl⟩ := hsl.plain bcells_len (by decide) (by intro e; rw [e] at hlt; exact absurd hlt (by simp))
      have c0 : wr.cell? ⟨b, off + i, none⟩ = some (.int .u8 (bs[i]'hlt)) := by
        have := hsl.cell bcells_len (i := i) (c := 0) hlt (by decide)
        simpa [bcells] using this
      obtain ⟨h0, h1⟩ := HB.out _ (List.getElem_mem hlt)
      have hx : (bs.take (i + 1)).foldl hstep 14695981039346656037 = hstep x (bs[i]'hlt) := by
        rw [List.take_succ_eq_append_getElem hlt, List.foldl_append, ← HX.out]; rfl
      have HXX := Lib.hid hx
      clear hx hsl
      generalize bs[i]'hlt = c at *
      go_wp2_with fail
      go_roundg (bs.length - (i + 1))
      case measure => omega
      case rel => exact ⟨i + 1, hstep x c, by go_num, rfl, by omega, Nat.le_refl _, rfl, HXX.out.symm⟩
    · have hltz : ¬ (i : Int) < (bs.length : Int) := by omega
      obtain rfl : i = bs.length := by omega
      have hx := HX.out
      rw [List.take_length] at hx
      have HX2 := Lib.hid hx
      clear hx HX
      go_wp2_with fail
      refine (refStir_any x _).mono ?_
      rintro e w1 ⟨rfl, rfl⟩
      go_wp2_with fail
      go_ret
      exact ⟨by rw [HX2.out]; rfl, rfl⟩
end Go.Proofs.Ytlohmmhdfabjiaa
