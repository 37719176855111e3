/-
  IntakeCuts, the plain law: to drain an intake between two feedings changes nothing of what it tells.
-/
import Derived.Test.YtoeaaomgilgncaaModel
namespace Go.Intake

theorem find_app {l : List UInt8} {k : Nat} (r : List UInt8) (h : find l = some k) : find (l ++ r) = some k := by
  induction l generalizing k with
  | nil => simp [find] at h
  | cons a t ih =>
    cases t with
    | nil => simp [find] at h
    | cons b t =>
      simp only [List.cons_append, find] at h ⊢
      split
      · rename_i hc
        rw [if_pos hc] at h
        exact h
      · rename_i hc
        rw [if_neg hc] at h
        cases hf : find (b :: t) with
        | none => rw [hf] at h; simp at h
        | some j =>
          rw [hf] at h
          have := ih hf
          simp only [List.cons_append] at this
          rw [this]
          exact h
theorem find_lt' {l : List UInt8} {k : Nat} (h : find l = some k) : k + 2 ≤ l.length := by
  induction l generalizing k with
  | nil => simp [find] at h
  | cons a t ih =>
    cases t with
    | nil => simp [find] at h
    | cons b t =>
      simp only [find] at h
      split at h
      · simp at h
        subst h
        simp
      · cases hf : find (b :: t) with
        | none => rw [hf] at h; simp at h
        | some j =>
          rw [hf] at h
          simp at h
          have := ih hf
          simp at this ⊢
          omega
theorem skipLine_none {h : Bool} {a : List UInt8} (hn : (skipLine h a).2.1 = false) : (skipLine h a).2.2 = [] := by
  induction a generalizing h with
  | nil => simp [skipLine]
  | cons c r ih =>
    simp only [skipLine] at hn ⊢
    split
    · rename_i hc
      rw [if_pos hc] at hn
      simp at hn
    · rename_i hc
      rw [if_neg hc] at hn
      exact ih hn
theorem skipLine_app (h : Bool) (a b : List UInt8) : skipLine h (a ++ b) = if (skipLine h a).2.1 then ((skipLine h a).1, true, (skipLine h a).2.2 ++ b) else skipLine (skipLine h a).1 b := by
  induction a generalizing h with
  | nil => simp [skipLine]
  | cons c r ih =>
    simp only [List.cons_append, skipLine]
    by_cases hc : (h && c == 10) = true
    · simp [hc]
    · simp only [hc, if_false, Bool.false_eq_true]
      exact ih _
theorem feed_feed (s : St) (a b : List UInt8) (h0 : 0 ≤ s.left) : feed (feed s a) b = feed s (a ++ b) := by
  by_cases h1 : s.stands = 1 ∧ s.ended = false
  · have e1 : feed s a = { s with half := (skipLine s.half a).1, ended := (skipLine s.half a).2.1, held := s.held ++ (skipLine s.half a).2.2 } := by
      unfold feed
      rw [if_pos h1]
    have e2 : feed s (a ++ b) = { s with half := (skipLine s.half (a ++ b)).1, ended := (skipLine s.half (a ++ b)).2.1, held := s.held ++ (skipLine s.half (a ++ b)).2.2 } := by
      unfold feed
      rw [if_pos h1]
    rw [e1, e2, skipLine_app]
    cases hx : (skipLine s.half a).2.1
    · have hr := skipLine_none hx
      unfold feed
      simp [h1.1, hr]
    · unfold feed
      simp [h1.1]
  · by_cases h3 : s.stands = 3
    · have e1 : ∀ x, feed s x = { s with left := s.left - min s.left x.length, held := s.held ++ x.drop (min s.left x.length).toNat } := fun x => by
        unfold feed
        rw [if_neg h1, if_pos h3]
      have e2 : ∀ t : St, t.stands = 3 → ∀ x, feed t x = { t with left := t.left - min t.left x.length, held := t.held ++ x.drop (min t.left x.length).toNat } := fun t ht x => by
        unfold feed
        rw [if_neg (by rw [ht]; simp), if_pos ht]
      rw [e2 (feed s a) (by rw [e1]; exact h3), e1, e1]
      simp only [List.append_assoc, List.length_append]
      by_cases hl : s.left ≤ a.length
      · congr 1
        · congr 1
          rw [show min (s.left - min s.left (a.length : Int)) (b.length : Int) = 0 from by omega, show (min s.left ((a.length + b.length : Nat) : Int)) = min s.left (a.length : Int) from by omega, List.drop_append_of_le_length (by omega)]
          simp
        · omega
      · congr 1
        · congr 1
          rw [List.drop_of_length_le (by omega : a.length ≤ _), List.nil_append, List.drop_append, List.drop_of_length_le (by omega : a.length ≤ _), List.nil_append]
          congr 1
          omega
        · omega
    · have e1 : ∀ t : St, ¬ (t.stands = 1 ∧ t.ended = false) → t.stands ≠ 3 → ∀ x, feed t x = { t with held := t.held ++ x } := fun t h1 h3 x => by
        unfold feed
        rw [if_neg h1, if_neg h3]
      rw [e1 s h1 h3 a, e1 s h1 h3 (a ++ b), e1 { s with held := s.held ++ a } h1 h3 b]
      simp
theorem feed0 {s : St} (h : s.stands = 0) (b : List UInt8) : feed s b = { s with held := s.held ++ b } := by
  unfold feed
  rw [if_neg (by rw [h]; simp), if_neg (by rw [h]; decide)]
theorem feed_stands (s : St) (b : List UInt8) : (feed s b).stands = s.stands := by
  unfold feed
  split
  · rfl
  · split <;> rfl
theorem long_feed {s : St} (h : s.stands = 0) (h0 : 0 ≤ s.left) (b : List UInt8) : long (feed s b) = feed (long s) b := by
  unfold long
  rw [feed_feed _ _ _ (by exact h0), feed0 h]
theorem long_stands1 (s : St) : (long s).stands = 1 := by
  unfold long
  rw [feed_stands]
theorem long_left (s : St) : (long s).left = s.left := by
  unfold long feed
  split
  · rfl
  · split
    · rename_i h; simp at h
    · rfl
theorem next1_some {s s' : St} {it : It} (b : List UInt8) (h0 : s.stands ≠ 0) (hl : 0 ≤ s.left) (hs : 0 ≤ s.size) (hst : s.stands = 1 ∨ s.stands = 2 ∨ s.stands = 3) (h : next1 s = (s', some it)) : next1 (feed s b) = (feed s' b, some it) := by
  rcases hst with h1 | h2 | h3
  · unfold next1 at h
    rw [if_pos h1] at h
    by_cases he : s.ended = true
    · rw [if_pos he] at h
      simp only [Prod.mk.injEq, Option.some.injEq] at h
      obtain ⟨rfl, rfl⟩ := h
      rw [feed0 (s := { s with stands := 0 }) rfl]
      have : feed s b = { s with held := s.held ++ b } := by
        unfold feed
        rw [if_neg (by simp [he]), if_neg (by rw [h1]; decide)]
      rw [this]
      simp [next1, h1, he]
    · rw [if_neg he] at h
      simp at h
  · unfold next1 at h
    rw [if_neg (by rw [h2]; decide), if_pos h2] at h
    by_cases hlen : (s.held.length : Int) < s.size + 2
    · rw [if_pos hlen] at h
      simp at h
    · rw [if_neg hlen] at h
      simp only [Prod.mk.injEq, Option.some.injEq] at h
      obtain ⟨rfl, rfl⟩ := h
      rw [feed0 (s := { s with stands := 0, held := s.held.drop (s.size.toNat + 2) }) rfl]
      have : feed s b = { s with held := s.held ++ b } := by
        unfold feed
        rw [if_neg (by rw [h2]; simp), if_neg (by rw [h2]; decide)]
      rw [this]
      unfold next1
      rw [if_neg (by rw [h2]; decide), if_pos h2, if_neg (by simp only [List.length_append]; omega)]
      simp only []
      rw [List.getElem?_append_left (by omega), List.getElem?_append_left (by omega), List.take_append_of_le_length (by omega), List.drop_append_of_le_length (by omega)]
  · unfold next1 at h
    rw [if_neg (by rw [h3]; decide), if_neg (by rw [h3]; decide)] at h
    by_cases hlen : s.left > 0
    · rw [if_pos hlen] at h
      simp at h
    · rw [if_neg hlen] at h
      simp only [Prod.mk.injEq, Option.some.injEq] at h
      obtain ⟨rfl, rfl⟩ := h
      rw [feed0 (s := { s with stands := 0 }) rfl]
      have hl0 : s.left = 0 := by omega
      have : feed s b = { s with held := s.held ++ b } := by
        unfold feed
        rw [if_neg (by rw [h3]; simp), if_pos h3, hl0]
        have : min (0 : Int) (b.length : Int) = 0 := by omega
        rw [this]
        simp [hl0]
      rw [this]
      unfold next1
      rw [if_neg (by rw [h3]; decide), if_neg (by rw [h3]; decide), if_neg (by simp [hl0])]
theorem next1_none {s s' : St} (h : next1 s = (s', none)) : s' = s := by
  unfold next1 at h
  split at h
  · split at h
    · simp at h
    · simp at h; exact h.symm
  · split at h
    · split at h
      · simp at h; exact h.symm
      · simp at h
    · split at h
      · simp at h; exact h.symm
      · simp at h
theorem next_ne {s : St} (h : s.stands ≠ 0) : next s = next1 s := by
  unfold next
  rw [if_neg h]
theorem next_long {s : St} (h : s.stands = 0) (hf : find (s.held.take 224) = none) (hl : 224 ≤ s.held.length) (b : List UInt8) (h0 : 0 ≤ s.left) : next (feed s b) = next1 (feed (long s) b) := by
  rw [← long_feed h h0, feed0 h]
  unfold next
  rw [if_pos h]
  simp only []
  rw [List.take_append_of_le_length hl, hf]
  simp only [List.length_append]
  rw [if_neg (by omega)]
theorem next_some {s s' : St} {it : It} (b : List UInt8) (hok : s.Ok) (h : next s = (s', some it)) : next (feed s b) = (feed s' b, some it) := by
  have h0 := hok.left.1
  have hz := hok.size.1
  by_cases hs : s.stands = 0
  · unfold next at h
    rw [if_pos hs] at h
    cases hf : find (s.held.take 224) with
    | some k =>
      rw [hf] at h
      simp only [Prod.mk.injEq, Option.some.injEq] at h
      obtain ⟨rfl, rfl⟩ := h
      rw [feed0 hs, feed0 (s := { s with held := s.held.drop (k + 2) }) hs]
      unfold next
      rw [if_pos hs]
      simp only []
      have hk : k + 2 ≤ (s.held.take 224).length := find_lt' hf
      rw [List.length_take] at hk
      rw [List.take_append, find_app _ hf]
      simp only []
      rw [List.drop_append_of_le_length (by omega), List.take_append_of_le_length (by omega)]
    | none =>
      rw [hf] at h
      simp only [] at h
      by_cases hl : s.held.length < 224
      · rw [if_pos hl] at h
        simp at h
      · rw [if_neg hl] at h
        rw [next_long hs hf (by omega) b h0]
        refine next1_some b ?_ (by rw [long_left]; exact h0) ?_ (.inl (long_stands1 s)) h
        · rw [long_stands1]; decide
        · have : (long s).size = s.size := by
            unfold long feed
            split
            · rfl
            · split
              · rename_i h; simp at h
              · rfl
          rw [this]
          exact hz
  · rw [next_ne hs] at h
    rw [next_ne (by rw [feed_stands]; exact hs)]
    refine next1_some b hs h0 hz ?_ h
    rcases hok.stands with h | h
    · exact absurd h hs
    · exact h
theorem next_none {s s' : St} (b : List UInt8) (h0 : 0 ≤ s.left) (h : next s = (s', none)) : next (feed s b) = next (feed s' b) := by
  by_cases hs : s.stands = 0
  · unfold next at h
    rw [if_pos hs] at h
    cases hf : find (s.held.take 224) with
    | some k => rw [hf] at h; simp at h
    | none =>
      rw [hf] at h
      simp only [] at h
      by_cases hl : s.held.length < 224
      · rw [if_pos hl] at h
        simp at h
        rw [h]
      · rw [if_neg hl] at h
        rw [next1_none h, next_long hs hf (by omega) b h0, next_ne (by rw [feed_stands, long_stands1]; decide)]
  · rw [next_ne hs] at h
    rw [next1_none h]
theorem body_feed {s : St} (h : s.stands = 0) (n : Int) (b : List UInt8) : body (feed s b) n = (feed (body s n).1 b, (body s n).2) := by
  rw [feed0 h]
  unfold body
  by_cases h1 : n < 0 ∨ n > 4294967295 ∨ s.stands ≠ 0
  · rw [if_pos h1, if_pos h1]
    simp only []
    rw [feed0 h]
  · rw [if_neg h1, if_neg h1]
    by_cases h2 : n ≤ s.most
    · rw [if_pos h2, if_pos h2]
      simp only []
      unfold feed
      rw [if_neg (by simp), if_neg (by simp)]
    · rw [if_neg h2, if_neg h2]
      simp only []
      unfold feed
      rw [if_neg (by simp), if_pos rfl]
      simp only [List.length_append]
      by_cases hl : n + 2 ≤ s.held.length
      · congr 2
        · rw [show min (n + 2 - min (n + 2) (s.held.length : Int)) (b.length : Int) = 0 from by omega, show (min (n + 2) ((s.held.length + b.length : Nat) : Int)) = min (n + 2) (s.held.length : Int) from by omega, List.drop_append_of_le_length (by omega)]
          simp
        · omega
      · congr 2
        · rw [List.drop_of_length_le (by omega : s.held.length ≤ _), List.nil_append, List.drop_append, List.drop_of_length_le (by omega : s.held.length ≤ _), List.nil_append]
          congr 1
          omega
        · omega
end Go.Intake
