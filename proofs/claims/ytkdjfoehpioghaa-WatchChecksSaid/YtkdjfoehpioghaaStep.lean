/-
  append as one step of a region that draws its order: the law of wpList_app (XRd) in the shape that go_region_law asks for.
-/
import Derived.Test.YtkdjfoehpioghaaAcc
import Derived.Deep.RegionLaw
namespace Go.Proofs.Ytkdjfoehpioghaa
open Go.RowKit
set_option linter.unusedVariables false
theorem step_app {α : Type} {P : Program} (enc : α → List Value) (k : Nat) (hk : ∀ x, (enc x).length = k) (k0 : 0 < k) (h1 : ∀ x, ∀ v ∈ enc x, v.oneCell' = true)
    (w : World) {ops : Array Oper} {o : Oper} {a : Act} {Q : Exit → Act → World → Prop} {K : Act → World → Prop} {E : Prop} (hgd : o.guard = none) (s x : Operand) (t : TypeId)
    (ho : o.op = .call { callee := .builtin .append, args := #[s, x], argTypes := #[t, t] })
    (base : Nat) (e : TypeId) (z : Value) (bytes : Nat) (ht : P.underlying t = some (.slice e)) (hinfo : (P.info? e).map (fun i => (i.zero, i.size, i.bytes)) = some (some z, k, bytes)) (hzs : z.cells.size = k)
    (v : Value) (l : List α) (hs : a.eval s = v) (hown : Owns enc k base e w v l)
    (vx : Value) (ms : List α) (hx : a.eval x = vx) (hxs : SlAt enc w vx ms)
    (hbytes : (l.length + ms.length) * bytes ≤ 140737488355328) (h63 : l.length + ms.length ≤ 9223372036854775807) (hbase : base ≤ w.heap.size)
    (h : ∀ v' w', Owns enc k base e w' v' (l ++ ms) → w.grownBy w' v.ownBlock → (v'.ownBlock = v.ownBlock ∨ ∀ g, v'.ownBlock = some g → w.heap.size ≤ g) → K (a.put o.dst v') w') :
    if Region.wanted o (yielded ops a.tmps) = true then Oper.wp P o a w K Q else E := by
  have hw : Region.wanted o (yielded ops a.tmps) = true := by simp [Region.wanted, hgd]
  rw [if_pos hw]
  obtain ⟨i, hi, hz, hsize, hby⟩ := info_parts hinfo
  obtain ⟨oa, cap, rfl, hcap, hn, hc⟩ := hxs
  cases oa with
  | none =>
    obtain rfl := hn rfl
    obtain rfl : ms = [] := List.eq_nil_of_length_eq_zero (by omega)
    have hrun := run_append_owned_none (P := P) (w := w) base t o.type e i k ht hi v l.length (l.flatMap enc) hown
    unfold Oper.wp
    simp [execOp, ho, resolve, invoke, builtin, hs, hx, hrun, Result.andThen]
    exact h v w (by rw [List.append_nil]; exact hown) (World.grownBy.refl w _) (.inl rfl)
  | some aa =>
    obtain ⟨v', w', hr, h2, h3, h4⟩ := run_append_own2 (P := P) w base t o.type e i z k bytes ht hi hz hsize hby hzs k0 v l.length (l.flatMap enc) hown aa ms.length cap (ms.flatMap enc) (flat_len enc k hk ms)
      (fun j u hu => hc aa rfl j u hu) (fun u hu => by obtain ⟨y, _, hy⟩ := List.mem_flatMap.1 hu; exact h1 y u hy) (by simp only [maxLen]; omega) hbytes hbase
    unfold Oper.wp execOp
    simp only [ho, resolve, invoke, builtin, Sem.run_bind, Sem.run_pure, Result.andThen_ok, List.map_toArray, List.map_cons, List.map_nil, hs, hx, hr]
    exact h v' w' (by unfold Owns; rw [List.length_append, List.flatMap_append]; exact h2) h3 h4
end Go.Proofs.Ytkdjfoehpioghaa
