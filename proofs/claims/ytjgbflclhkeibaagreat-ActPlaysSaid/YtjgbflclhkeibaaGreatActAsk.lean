/-
  What is asked ahead of a plan, one behind the other: may, owns, knows, cooled; and what is decided.
-/
import Derived.Test.YtjgbflclhkeibaaGreatMRef24
import Derived.Deep.QuietTactic
import Derived.BigQuiet
import Derived.Deep.RegionHeld
import Derived.Deep.DeepCutAuto
namespace Go.Proofs.YtjgbflclhkeibaaGreat
open Go.Shelf Go.RowKit Go.Lib Go.Sort
set_option linter.unusedVariables false
def qcells (c : ACfg) (t l live : Value) (work now tick : Int) (p : Pol) (load : Int) : Array Value :=
  #[.int .i64 c.self, .int .i64 c.window, .int .i64 c.keep, .int .u64 c.salt, t, l, live, .int .i64 work, .int .i64 now, .int .i64 tick,
    .int .i64 p.mn, .int .i64 p.mx, .int .i64 p.goal, .int .i64 p.slack, .int .i64 p.up, .int .i64 p.down, .int .i64 p.cool, .int .i64 load]
/-- a question at block b -/
def QAt (w : World) (b : Nat) (c : ACfg) (t l live : Value) (work now tick : Int) (p : Pol) (load : Int) : Prop := w.heap[b]? = some (.cells (qcells c t l live work now tick p load) 80)
section
variable {w w' : World} {b : Nat} {c : ACfg} {t l live : Value} {work now tick : Int} {p : Pol} {load : Int}
theorem QAt.cell (h : QAt w b c t l live work now tick p load) (k : Nat) : w.cell? ⟨b, k, none⟩ = (qcells c t l live work now tick p load)[k]? := cell_of_row _ b k _ _ _ h
theorem QAt.frozen (h : QAt w b c t l live work now tick p load) (k : Nat) : w.frozen? ⟨b, k, none⟩ = false := by simp [World.frozen?, show w.heap[b]? = _ from h]
theorem QAt.lt (h : QAt w b c t l live work now tick p load) : b < w.heap.size := (Array.getElem?_eq_some_iff.1 h).1
theorem QAt.below (h : QAt w b c t l live work now tick p load) (hb : Below w.heap.size w w') : QAt w' b c t l live work now tick p load := (hb.block b h.lt).trans h
theorem QAt.kept {row : Option Nat} (h : QAt w b c t l live work now tick p load) (hg : w.grownBy w' row) (hr : some b ≠ row) : QAt w' b c t l live work now tick p load := (hg.block b h.lt hr).trans h
end
/-- how an ask ends: on it goes, or a fault -/
def askE (ok : Bool) (n : Int) : Ending := if ok = true then .returned (.tuple #[]) else .panicked [{ v := .iface 95 (.agg #[.int .i64 n]), recovered := false }]
theorem must_any (ok : Bool) (n : Int) (w : World) : Calls Tryz.prog 39 #[.bool ok, .int .i64 n] w fun e w' => e = askE ok n ∧ w = w' := by
  cases ok
  · exact must_no n w
  · exact must_yes n w
section
variable (b : Nat) (c : ACfg) (t l live : Value) (work now tick : Int) (p : Pol) (load : Int) (w : World)
theorem may_any (h : QAt w b c t l live work now tick p load) :
    Calls Tryz.prog 24 #[.pointer (some ⟨b, 0, none⟩)] w fun e w' => e = askE (inB now 0 1000) 2 ∧ w = w' := by
  have c8 : w.cell? ⟨b, 8, none⟩ = some (.int .i64 now) := h.cell 8
  have hw := fun W => actWithin_any now 0 1000 (by decide) W
  generalize inB now 0 1000 = ok at *
  have HW := Lib.hid hw
  have hm := fun W => must_any ok 2 W
  have HM := Lib.hid hm
  clear hw hm h
  cases ok with
  | true =>
    go_enter Tryz.func24, Tryz.ntmps24
    go_wp2_with fail
    refine (HW.out _).mono ?_
    rintro e w' ⟨rfl, rfl⟩
    go_wp2_with fail
    refine (HM.out _).mono ?_
    rintro e w' ⟨rfl, rfl⟩
    simp only [askE, if_true]
    go_wp2_with fail
    exact ⟨rfl, _, results_none rfl _ _ _, rfl, rfl⟩
  | false =>
    go_enter Tryz.func24, Tryz.ntmps24
    go_wp2_with fail
    refine (HW.out _).mono ?_
    rintro e w' ⟨rfl, rfl⟩
    go_wp2_with fail
    refine (HM.out _).mono ?_
    rintro e w' ⟨rfl, rfl⟩
    simp only [askE, Bool.false_eq_true, if_false]
    go_wp2_with fail
    exact ⟨rfl, rfl, rfl⟩
/-- how the cells of a question read, behind whatever is made later -/
theorem QAt.at3 (h : QAt w b c t l live work now tick p load) : ∀ W, Below w.heap.size w W → W.cell? ⟨b, 3, none⟩ = some (.int .u64 c.salt) ∧ W.cell? ⟨b, 6, none⟩ = some live ∧ W.cell? ⟨b, 7, none⟩ = some (.int .i64 work) :=
  fun W hW => ⟨(h.below hW).cell 3, (h.below hW).cell 6, (h.below hW).cell 7⟩
theorem own_err (l : List Int) : (own l).2 = 0 ∨ (own l).2 = 8 := by cases l <;> simp [own]
set_option maxHeartbeats 1000000 in
theorem owns_any (oa : Option Addr) (cap : Nat) (nodes : List Int) (hsalt : 0 ≤ c.salt ∧ c.salt < 18446744073709551616) (hlv : live = .slice oa nodes.length cap) (h : QAt w b c t l live work now tick p load) (hn : SlAt icells w live nodes) (hl : nodes.length ≤ 1000000) :
    Calls Tryz.prog 25 #[.pointer (some ⟨b, 0, none⟩)] w fun e w' => e = askE (decide (own (rk nodes work c.salt) = (c.self, 0))) 12 ∧ Below w.heap.size w w' := by
  subst hlv
  have hq := h.at3
  have c3 := (hq w (Below.refl _ _)).1
  have c6 := (hq w (Below.refl _ _)).2.1
  have c7 := (hq w (Below.refl _ _)).2.2
  have h0 : ∀ W, Below w.heap.size w W → W.cell? ⟨b, 0, none⟩ = some (.int .i64 c.self) := fun W hW => (h.below hW).cell 0
  have ho : ∀ W, Below w.heap.size w W → Calls Tryz.prog 40 #[.slice oa nodes.length cap, .int .i64 work, .int .u64 c.salt] W fun e w' => e = .returned (.tuple #[.int .i64 (own (rk nodes work c.salt)).1, .int .i64 (own (rk nodes work c.salt)).2]) ∧ Below w.heap.size w w' :=
    fun W hW => (owner_any oa cap nodes work c.salt hsalt.1 hsalt.2 W (hn.below icells_len (by decide) hW (Nat.le_refl _)) hl).mono fun e w' ⟨l, hr, he, hb⟩ => by
      obtain rfl : l = rk nodes work c.salt := hr.eq (rk_ranks _ _ _) rfl
      exact ⟨he, hW.trans (hb.mono hW.size)⟩
  have hm := fun ok W => must_any ok 12 W
  have herr := own_err (rk nodes work c.salt)
  generalize own (rk nodes work c.salt) = xe at *
  obtain ⟨x, er⟩ := xe
  simp only at ho herr ⊢
  have HM := Lib.hid hm
  have HO := Lib.hid ho
  have HQ := Lib.hid hq
  have H0 := Lib.hid h0
  clear hm ho h hn hq h0 hsalt
  obtain ⟨ok, hok⟩ : ∃ ok, decide ((x, er) = (c.self, (0 : Int))) = ok := ⟨_, rfl⟩
  rw [hok]
  have core : Calls Tryz.prog 25 #[.pointer (some ⟨b, 0, none⟩)] w fun e w' => e = askE ok 12 ∧ Below w.heap.size w w' := by
    rcases herr with rfl | rfl
    · have hx : (x == c.self) = ok := by rw [← hok, Bool.eq_iff_iff]; simp
      clear hok
      go_enter Tryz.func25, Tryz.ntmps25
      go_wp2_with fail
      go_cut [2, 3] (fun s2 s3 wx => s2 = .int .i64 x ∧ s3 = .int .i64 0 ∧ Hid (Below w.heap.size w wx))
      case first =>
        go_region_held (fun w' => w'.cell? ⟨b, 3, none⟩ = some (.int .u64 c.salt) ∧ w'.cell? ⟨b, 6, none⟩ = some (.slice oa nodes.length cap) ∧ w'.cell? ⟨b, 7, none⟩ = some (.int .i64 work)) (first | exact HQ.out _ (below_drew (Below.refl _ _)) | exact HQ.out _ HB1.out)
          (first | (go_at_call 40; refine (HO.out _ (below_drew (Below.refl _ _))).mono ?_; rintro e w1 ⟨rfl, hb1⟩; have HB1 := Lib.hid hb1; clear hb1))
        all_goals
          go_wp2_with fail
          go_meet
          exact ⟨rfl, rfl, HB1⟩
      case rest =>
        obtain ⟨rfl, rfl, HB1⟩ := hcut
        have c0 := H0.out _ HB1.out
        clear c3 c6 c7
        go_wp2_with fail
        refine (HM.out _ _).mono ?_
        rintro e w2 ⟨rfl, rfl⟩
        cases ok with
        | true =>
          simp only [askE, if_true]
          go_wp2_with fail
          exact ⟨rfl, _, results_none rfl _ _ _, rfl, HB1.out⟩
        | false =>
          simp only [askE, Bool.false_eq_true, if_false]
          go_wp2_with fail
          exact ⟨rfl, rfl, HB1.out⟩
    · have hx : ok = false := by rw [← hok]; simp
      subst hx
      clear hok
      go_enter Tryz.func25, Tryz.ntmps25
      go_wp2_with fail
      go_cut [2, 3] (fun s2 s3 wx => s2 = .int .i64 x ∧ s3 = .int .i64 8 ∧ Hid (Below w.heap.size w wx))
      case first =>
        go_region_held (fun w' => w'.cell? ⟨b, 3, none⟩ = some (.int .u64 c.salt) ∧ w'.cell? ⟨b, 6, none⟩ = some (.slice oa nodes.length cap) ∧ w'.cell? ⟨b, 7, none⟩ = some (.int .i64 work)) (first | exact HQ.out _ (below_drew (Below.refl _ _)) | exact HQ.out _ HB1.out)
          (first | (go_at_call 40; refine (HO.out _ (below_drew (Below.refl _ _))).mono ?_; rintro e w1 ⟨rfl, hb1⟩; have HB1 := Lib.hid hb1; clear hb1))
        all_goals
          go_wp2_with fail
          go_meet
          exact ⟨rfl, rfl, HB1⟩
      case rest =>
        obtain ⟨rfl, rfl, HB1⟩ := hcut
        clear c3 c6 c7
        go_wp2_with fail
        refine (HM.out _ _).mono ?_
        rintro e w2 ⟨rfl, rfl⟩
        simp only [askE, Bool.false_eq_true, if_false]
        go_wp2_with fail
        exact ⟨rfl, rfl, HB1.out⟩
  exact core
end
end Go.Proofs.YtjgbflclhkeibaaGreat
