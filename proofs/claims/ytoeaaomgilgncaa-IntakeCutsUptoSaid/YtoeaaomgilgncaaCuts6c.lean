/-
  IntakeCuts: one of two readers is fed, is drained.
-/
import Derived.Test.YtoeaaomgilgncaaCuts6b
import Derived.Test.YtoeaaomgilgncaaBounds2
namespace Go.Proofs.Ytoeaaomgilgncaa
open Go.RowKit Go.Mem Go.Intake
set_option linter.unusedVariables false
section
variable {w W : World} {Az : Option Addr} {nz cz : Nat} {rx px : Nat} {sx : St} {kx : Nat} {lx : List It} {ry py : Nat} {sy : St} {ky : Nat} {ly : List It}
theorem Two.feed (h : Two w W Az nz cz rx px sx kx lx ry py sy ky ly) (Ab : Option Addr) (n cb : Nat) (bs : List UInt8) (hb : RdB w Ab n cb bs) (hsz : sx.held.length + n ≤ 140737488355328) :
    Calls Try.prog 17 #[.pointer (some ⟨px, 0, none⟩), .slice Ab n cb] W (Gives fun v W' => v = .tuple #[] ∧ Two w W' Az nz cz rx px (Intake.feed sx bs) kx lx ry py sy ky ly) := by
  obtain ⟨Ax, capx, Aix, cix, bx, Ay, capy, Aiy, ciy, by_, h1, h2, h3, h4, h5⟩ := h
  refine (Feed_calls W px Ax capx sx h1.inn Ab n cb bs (hb.below h5) (fun hne hj => ?_) hsz).mono ?_
  · have := h4 px (.inl (.inr (.inl (.inl rfl))))
    have := Rd.lt hb (by
      intro e
      apply hne
      have := congrArg List.length e
      exact List.eq_nil_of_length_eq_zero (by simpa using this)) px hj
    omega
  · rintro e W' ⟨v, rfl, A', cap', rfl, hin, hm, hA⟩
    exact ⟨_, rfl, rfl, Two.step h1 h2 h3 h4 h5 (h1.turn hin hm hA) (hm.mono fun i _ h => .inr (.inl h)) (foot3_turn hA)⟩
theorem Two.drain (h : Two w W Az nz cz rx px sx kx lx ry py sy ky ly) (sizes : List Int) (hz : RdI w Az nz cz sizes) (hzb : ∀ z ∈ sizes, -9223372036854775808 ≤ z ∧ z ≤ 9223372036854775807) (hzl : ∀ j, InB Az j → j < w.heap.size)
    (hk : kx ≤ lx.length) (hN : lx.length + meas sx ≤ 1000000000000) (hG : Lw w) :
    Calls Try.prog 18 #[.pointer (some ⟨rx, 0, none⟩)] W (Gives fun v W' => v = .tuple #[] ∧ ∃ s' k' l, Drains sizes sx kx l s' k' ∧ s'.Ok ∧ Two w W' Az nz cz rx px s' k' (lx ++ l) ry py sy ky ly) := by
  obtain ⟨Ax, capx, Aix, cix, bx, Ay, capy, Aiy, ciy, by_, h1, h2, h3, h4, h5⟩ := h
  refine (drain_calls W rx px Ax capx Aix cix bx Az nz cz sx kx lx sizes h1 (hz.below h5) hzb (fun j hj => ⟨Nat.lt_of_lt_of_le (hzl j hj) h5.size, fun hf => ?_⟩) hk hN (hG.below h5) (fun hf => ?_)).mono ?_
  · have := h4 j (.inl hf)
    have := hzl j hj
    omega
  · have := h4 0 (.inl hf)
    have := hG.pos
    omega
  · rintro e W' ⟨v, rfl, A', cap', Ai', ci', bs', s', k', l, rfl, hd, hr, hm, hf⟩
    exact ⟨_, rfl, rfl, s', k', l, hd, hr.inn.ok, Two.step h1 h2 h3 h4 h5 hr hm hf⟩
end
end Go.Proofs.Ytoeaaomgilgncaa
