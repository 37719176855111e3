/-
  IntakeCuts, the plain law: what is drained, in pieces and whole.
-/
import Derived.Test.YtoeaaomgilgncaaCuts1
namespace Go.Intake

theorem St.Ok.feed {s : St} (h : s.Ok) (b : List UInt8) : (feed s b).Ok := by
  obtain ⟨h1, h2, h3, h4⟩ := h
  unfold Intake.feed
  split
  · exact ⟨h1, h2, h3, h4⟩
  · split
    · exact ⟨h1, h2, h3, by simp only []; omega⟩
    · exact ⟨h1, h2, h3, h4⟩
theorem St.Ok.stand {s : St} (h : s.Ok) (l : List UInt8) : ({ s with stands := 0, held := l } : St).Ok := ⟨h.most, .inl rfl, h.size, h.left⟩
theorem St.Ok.next1 {s : St} (h : s.Ok) : (next1 s).1.Ok := by
  unfold Intake.next1
  split
  · split
    · exact ⟨h.most, .inl rfl, h.size, h.left⟩
    · exact h
  · split
    · split
      · exact h
      · exact h.stand _
    · split
      · exact h
      · exact ⟨h.most, .inl rfl, h.size, h.left⟩
theorem St.Ok.long {s : St} (h : s.Ok) : (long s).Ok := by
  unfold Intake.long
  exact St.Ok.feed (s := { s with stands := 1, half := false, ended := false, held := [] }) ⟨h.most, .inr (.inl rfl), h.size, h.left⟩ _
theorem St.Ok.next {s : St} (h : s.Ok) : (next s).1.Ok := by
  unfold Intake.next
  split
  · split
    · exact ⟨h.most, h.stands, h.size, h.left⟩
    · split
      · exact h
      · exact h.long.next1
  · exact h.next1
theorem St.Ok.body {s : St} (h : s.Ok) (n : Int) : (body s n).1.Ok := by
  have hm := h.most
  unfold Intake.body
  split
  · exact h
  · rename_i hn
    split
    · exact ⟨h.most, .inr (.inr (.inl rfl)), by simp only []; omega, h.left⟩
    · exact ⟨h.most, .inr (.inr (.inr rfl)), h.size, by simp only []; omega⟩

/-- What follows a told item. -/
def after (sizes : List Int) (s : St) (k : Nat) (it : It) : St := if it.kind = 1 then (match sizes[k]? with | some n => (body s n).1 | none => s) else s
def lines (k : Nat) (it : It) : Nat := if it.kind = 1 then k + 1 else k
theorem St.Ok.after {s : St} (h : s.Ok) (sizes : List Int) (k : Nat) (it : It) : (after sizes s k it).Ok := by
  unfold Intake.after
  split
  · split
    · exact h.body _
    · exact h
  · exact h
/-- A drain, whole. -/
inductive Drains (sizes : List Int) : St → Nat → List It → St → Nat → Prop where
  | done {s s' : St} {k : Nat} (h : next s = (s', none)) : Drains sizes s k [] s' k
  | more {s s1 s' : St} {k k' : Nat} {it : It} {l : List It} (h : next s = (s1, some it)) (r : Drains sizes (after sizes s1 k it) (lines k it) l s' k') : Drains sizes s k (it :: l) s' k'

theorem Drains.det {sizes : List Int} {s s1 s2 : St} {k k1 k2 : Nat} {l1 l2 : List It} (h1 : Drains sizes s k l1 s1 k1) (h2 : Drains sizes s k l2 s2 k2) : l1 = l2 ∧ s1 = s2 ∧ k1 = k2 := by
  induction h1 generalizing l2 s2 k2 with
  | done h =>
    cases h2 with
    | done h' => rw [h] at h'; simp at h'; exact ⟨rfl, h', rfl⟩
    | more h' _ => rw [h] at h'; simp at h'
  | more h _ ih =>
    cases h2 with
    | done h' => rw [h] at h'; simp at h'
    | more h' r =>
      rw [h] at h'
      simp only [Prod.mk.injEq, Option.some.injEq] at h'
      obtain ⟨rfl, rfl⟩ := h'
      obtain ⟨rfl, h2, h3⟩ := ih r
      exact ⟨rfl, h2, h3⟩
theorem Drains.congr {sizes : List Int} {s t s' : St} {k k' : Nat} {l : List It} (h : next s = next t) (d : Drains sizes s k l s' k') : Drains sizes t k l s' k' := by
  cases d with
  | done h' => exact .done (h ▸ h')
  | more h' r => exact .more (h ▸ h') r
/-- A line is told only where a line is awaited. -/
theorem line_stands {s s' : St} {it : It} (h : next s = (s', some it)) (hk : it.kind = 1) : s'.stands = 0 := by
  have h1 : ∀ {t : St}, next1 t = (s', some it) → s'.stands = 0 := by
    intro t h
    unfold next1 at h
    split at h
    · split at h
      · simp only [Prod.mk.injEq] at h; rw [← h.1]
      · simp at h
    · split at h
      · split at h
        · simp at h
        · simp only [Prod.mk.injEq] at h; rw [← h.1]
      · split at h
        · simp at h
        · simp only [Prod.mk.injEq] at h; rw [← h.1]
  unfold next at h
  split at h
  · rename_i hs
    split at h
    · simp only [Prod.mk.injEq] at h; rw [← h.1]; exact hs
    · split at h
      · simp at h
      · exact h1 h
  · exact h1 h
theorem after_feed {sizes : List Int} {s : St} {k : Nat} {it : It} (b : List UInt8) (h : it.kind = 1 → s.stands = 0) : after sizes (feed s b) k it = feed (after sizes s k it) b := by
  unfold after
  split
  · rename_i hk
    split
    · rw [body_feed (h hk)]
    · rfl
  · rfl
/-- What was fed in between may as well be fed ahead. -/
theorem Drains.glue {sizes : List Int} {s s1 s2 : St} {k k1 k2 : Nat} {l1 l2 : List It} (b : List UInt8) (hok : s.Ok) (h1 : Drains sizes s k l1 s1 k1) (h2 : Drains sizes (feed s1 b) k1 l2 s2 k2) : Drains sizes (feed s b) k (l1 ++ l2) s2 k2 := by
  induction h1 with
  | done h => exact h2.congr (next_none b hok.left.1 h).symm
  | @more s t s' k k' it l h r ih =>
    have ht : t.Ok := by
      have := hok.next
      rw [h] at this
      exact this
    refine .more (next_some b hok h) ?_
    rw [after_feed b (line_stands h)]
    exact ih (ht.after _ _ _) h2
end Go.Intake
