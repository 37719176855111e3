/-
  IntakeCuts: how many items a drain tells.
-/
import Derived.Test.YtoeaaomgilgncaaCuts6c
namespace Go.Proofs.Ytoeaaomgilgncaa
open Go.RowKit Go.Mem Go.Intake
set_option linter.unusedVariables false
theorem drains_lines {sizes : List Int} {s s' : St} {k k' : Nat} {l : List It} (h : Drains sizes s k l s' k') : k' ≤ k + l.length := by
  induction h with
  | done _ => simp
  | @more s t s' k k' it l h r ih =>
    have : lines k it ≤ k + 1 := by unfold lines; split <;> omega
    simp only [List.length_cons]
    omega
theorem next_none_meas {s s' : St} (h : next s = (s', none)) : meas s' ≤ meas s := by
  by_cases hs : s.stands = 0
  · unfold next at h
    rw [if_pos hs] at h
    cases hf : find (s.held.take 224) with
    | some k => rw [hf] at h; simp at h
    | none =>
      rw [hf] at h
      simp only [] at h
      by_cases hl : s.held.length < 224
      · rw [if_pos hl] at h
        simp at h
        rw [h]
        exact Nat.le_refl _
      · rw [if_neg hl] at h
        rw [next1_none h]
        have h2 : (long s).ended = false := by
          unfold next1 at h
          rw [if_pos (long_stands1 s)] at h
          cases he : (long s).ended
          · rfl
          · rw [he] at h; simp at h
        unfold long Intake.feed at h2 ⊢
        simp only [and_self, if_true] at h2 ⊢
        rw [skipLine_acc _ _ h2]
        simp [meas, hs]
        omega
  · rw [next_ne hs] at h
    rw [next1_none h]
    exact Nat.le_refl _
theorem drains_count {sizes : List Int} {s s' : St} {k k' : Nat} {l : List It} (h : Drains sizes s k l s' k') : l.length + meas s' ≤ meas s := by
  induction h with
  | done h => have := next_none_meas h; simp; omega
  | @more s t s' k k' it l h r ih =>
    have := after_meas (sizes := sizes) (k := k) h
    simp only [List.length_cons]
    omega
end Go.Proofs.Ytoeaaomgilgncaa
