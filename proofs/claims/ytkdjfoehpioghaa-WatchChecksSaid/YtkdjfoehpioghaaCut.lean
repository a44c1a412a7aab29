/-
  A piece of code cut off: what it leaves told by the frame behind it and by what is known of the world.
-/
import Derived.Test.YtkdjfoehpioghaaRd
namespace Go.Proofs.Ytkdjfoehpioghaa
open Go.RowKit
set_option linter.unusedVariables false
def CutAt (b : Act) (F : World → Prop) : Exit → Act → World → Prop
  | .normal, a, w => a = b ∧ F w
  | _, _, _ => False
theorem wp_cut {P : Program} {c : Code} {Q : Exit → Act → World → Prop} {a : Act} {w : World} (A : Act → Act) (F : World → Prop) (h1 : c.wp P (CutAt (A a) F) a w) (h2 : ∀ w', F w' → Q .normal (A a) w') : c.wp P Q a w :=
  Code.wp_mono (fun e a' w' h => by
    cases e with
    | normal => obtain ⟨rfl, h⟩ := h; exact h2 w' h
    | _ => exact h.elim) h1
def CutAtX {α : Type} (b : α → Act) (F : α → World → Prop) : Exit → Act → World → Prop
  | .normal, a, w => ∃ x, a = b x ∧ F x w
  | _, _, _ => False
theorem wp_cutX {α : Type} {P : Program} {c : Code} {Q : Exit → Act → World → Prop} {a : Act} {w : World} (A : α → Act → Act) (F : α → World → Prop) (h1 : c.wp P (CutAtX (fun x => A x a) F) a w) (h2 : ∀ x w', F x w' → Q .normal (A x a) w') : c.wp P Q a w :=
  Code.wp_mono (fun e a' w' h => by
    cases e with
    | normal => obtain ⟨x, rfl, h⟩ := h; exact h2 x w' h
    | _ => exact h.elim) h1
end Go.Proofs.Ytkdjfoehpioghaa
