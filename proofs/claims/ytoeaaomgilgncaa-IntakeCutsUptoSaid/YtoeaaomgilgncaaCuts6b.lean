/-
  IntakeCuts: two readers in memory, apart.
-/
import Derived.Test.YtoeaaomgilgncaaCuts6
namespace Go.Proofs.Ytoeaaomgilgncaa
open Go.RowKit Go.Mem Go.Intake
set_option linter.unusedVariables false

/-- Two readers, apart, all of both new. -/
def Two (w W : World) (Az : Option Addr) (nz cz : Nat) (rx px : Nat) (sx : St) (kx : Nat) (lx : List It) (ry py : Nat) (sy : St) (ky : Nat) (ly : List It) : Prop :=
  ∃ Ax capx Aix cix bx Ay capy Aiy ciy by_, RD W rx px Ax capx Aix cix bx Az nz cz sx kx lx ∧ RD W ry py Ay capy Aiy ciy by_ Az nz cz sy ky ly ∧ (∀ j, foot3 rx px Ax Aix bx j → ¬ foot3 ry py Ay Aiy by_ j) ∧
    (∀ j, foot3 rx px Ax Aix bx j ∨ foot3 ry py Ay Aiy by_ j → w.heap.size ≤ j) ∧ Below w.heap.size w W
section
variable {w W : World} {Az : Option Addr} {nz cz : Nat} {rx px : Nat} {sx : St} {kx : Nat} {lx : List It} {ry py : Nat} {sy : St} {ky : Nat} {ly : List It}
theorem Two.swap (h : Two w W Az nz cz rx px sx kx lx ry py sy ky ly) : Two w W Az nz cz ry py sy ky ly rx px sx kx lx := by
  obtain ⟨Ax, capx, Aix, cix, bx, Ay, capy, Aiy, ciy, by_, h1, h2, h3, h4, h5⟩ := h
  exact ⟨Ay, capy, Aiy, ciy, by_, Ax, capx, Aix, cix, bx, h2, h1, fun j hj hj' => h3 j hj' hj, fun j hj => h4 j hj.symm, h5⟩
theorem Two.mod {W' : World} (h : Two w W Az nz cz rx px sx kx lx ry py sy ky ly) (hm : Mod (fun _ => False) W W') : Two w W' Az nz cz rx px sx kx lx ry py sy ky ly := by
  obtain ⟨Ax, capx, Aix, cix, bx, Ay, capy, Aiy, ciy, by_, h1, h2, h3, h4, h5⟩ := h
  exact ⟨Ax, capx, Aix, cix, bx, Ay, capy, Aiy, ciy, by_, h1.mod hm fun _ _ h => h, h2.mod hm fun _ _ h => h, h3, h4, h5.trans (hm.below h5.size fun _ _ h => h)⟩
/-- A step of the first reader. -/
theorem Two.step {W' : World} {Ax Aix Ax' Aix' Ay Aiy : Option Addr} {capx cix capx' cix' capy ciy : Nat} {bx bx' by_ : List Loc} {sx' : St} {kx' : Nat} {lx' : List It} (h1 : RD W rx px Ax capx Aix cix bx Az nz cz sx kx lx) (h2 : RD W ry py Ay capy Aiy ciy by_ Az nz cz sy ky ly) (h3 : ∀ j, foot3 rx px Ax Aix bx j → ¬ foot3 ry py Ay Aiy by_ j)
    (h4 : ∀ j, foot3 rx px Ax Aix bx j ∨ foot3 ry py Ay Aiy by_ j → w.heap.size ≤ j) (h5 : Below w.heap.size w W)
    (h1' : RD W' rx px Ax' capx' Aix' cix' bx' Az nz cz sx' kx' lx') (hm : Mod (foot3 rx px Ax Aix bx) W W') (hf : ∀ j, foot3 rx px Ax' Aix' bx' j → foot3 rx px Ax Aix bx j ∨ W.heap.size ≤ j) : Two w W' Az nz cz rx px sx' kx' lx' ry py sy ky ly :=
  ⟨Ax', capx', Aix', cix', bx', Ay, capy, Aiy, ciy, by_, h1', h2.mod hm fun j hj hj' => h3 j hj' hj, fun j hj hj' => by
    rcases hf j hj with h | h
    · exact h3 j h hj'
    · have := h2.lt j hj'; omega, fun j hj => by
    rcases hj with hj | hj
    · rcases hf j hj with h | h
      · exact h4 j (.inl h)
      · exact Nat.le_trans h5.size h
    · exact h4 j (.inr hj), h5.trans (hm.below h5.size fun i hi h => by have := h4 i (.inl h); omega)⟩
end
end Go.Proofs.Ytoeaaomgilgncaa
