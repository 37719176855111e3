/-
  Append as one step inside a region that draws its order ('go_region_held3', 'go_region_law').
-/
import Derived.Test.YtoeaaomgilgncaaBase
import Derived.Deep.RegionLawGrows
import Derived.Deep.RegionHeld3
namespace Go.Mem
open Go.RowKit
set_option linter.unusedVariables false
theorem step_append {P : Program} {ops : Array Oper} {o : Oper} {a : Act} {w : World} {K : Act → World → Prop} {Q : Exit → Act → World → Prop} {E : Prop}
    (hg : o.guard = none) (s x : Operand) (t tx : TypeId) (hop : o.op = Op.call { callee := Callee.builtin Builtin.append, args := #[s, x], argTypes := #[t, tx] })
    {e size bytes : Nat} (ht : Elt P t e size bytes) (A : Option Addr) (n cap : Nat) (xs : List Value) (hs : a.eval s = .slice A n cap) (ho : Own w e size A n cap xs)
    (xv : Value) (m : Nat) (news : List Value) (hx : a.eval x = xv) (hsrc : Src P size tx xv m news w) (h63 : n + m ≤ maxLen) (hby : (n + m) * bytes ≤ 140737488355328)
    (hK : ∀ A' cap' w', Own w' e size A' (n + m) cap' (xs ++ news) → Mod (InB A) w w' → (∀ k, InB A' k → InB A k ∨ w.heap.size ≤ k) → K (a.put o.dst (.slice A' (n + m) cap')) w') :
    if Region.wanted o (yielded ops a.tmps) = true then Oper.wp P o a w K Q else E := by
  have hw : Region.wanted o (yielded ops a.tmps) = true := by simp [Region.wanted, hg]
  rw [if_pos hw]
  obtain ⟨A', cap', w', hrun, r1, r2, r3, _⟩ := run_append (P := P) w ht tx o.type ho hsrc h63 hby
  unfold Oper.wp
  simp [execOp, hop, resolve, invoke, builtin, hs, hx, hrun, Result.andThen]
  exact hK _ _ _ r1 r2 r3
end Go.Mem
