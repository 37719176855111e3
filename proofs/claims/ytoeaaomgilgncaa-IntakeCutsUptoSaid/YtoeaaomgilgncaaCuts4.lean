/-
  IntakeCuts: a drain comes to an end.
-/
import Derived.Test.YtoeaaomgilgncaaCuts3
namespace Go.Proofs.Ytoeaaomgilgncaa
open Go.RowKit Go.Mem Go.Intake
set_option linter.unusedVariables false

theorem next1_meas {s s' : St} {it : It} (h0 : s.stands ≠ 0) (h : next1 s = (s', some it)) : meas s' + 1 ≤ meas s ∧ it.kind ≠ 1 := by
  unfold next1 at h
  split at h
  · split at h
    · simp only [Prod.mk.injEq, Option.some.injEq] at h
      obtain ⟨rfl, rfl⟩ := h
      simp [meas, h0, item]
    · simp at h
  · split at h
    · split at h
      · simp at h
      · simp only [Prod.mk.injEq, Option.some.injEq] at h
        obtain ⟨rfl, rfl⟩ := h
        constructor
        · simp only [meas, List.length_drop, if_true, if_neg h0]
          omega
        · split <;> simp [item]
    · split at h
      · simp at h
      · simp only [Prod.mk.injEq, Option.some.injEq] at h
        obtain ⟨rfl, rfl⟩ := h
        simp [meas, h0, item]
theorem next_meas {s s' : St} {it : It} (h : next s = (s', some it)) : meas s' + 1 ≤ meas s ∧ (it.kind = 1 → meas s' + 4 ≤ meas s) := by
  unfold next at h
  split at h
  · rename_i hs
    split at h
    · rename_i k hf
      have := find_lt' hf
      rw [List.length_take] at this
      simp only [Prod.mk.injEq, Option.some.injEq] at h
      obtain ⟨rfl, rfl⟩ := h
      simp only [meas, List.length_drop, hs, if_true]
      omega
    · split at h
      · simp at h
      · rename_i hf hl
        have h1 := next1_meas (by rw [long_stands1]; decide) h
        have h2 : (long s).ended = true := by
          unfold next1 at h
          rw [if_pos (long_stands1 s)] at h
          cases he : (long s).ended
          · rw [he] at h; simp at h
          · rfl
        have h3 : meas (long s) ≤ meas s := by
          unfold long feed at h2 ⊢
          simp only [and_self, if_true] at h2 ⊢
          have := skipLine_pos _ _ h2
          simp only [meas, List.nil_append, hs]
          simp
          omega
        exact ⟨by omega, fun hk => absurd hk h1.2⟩
  · rename_i hs
    have := next1_meas hs h
    exact ⟨this.1, fun hk => absurd hk this.2⟩
theorem body_meas {s : St} (n : Int) : meas (body s n).1 ≤ meas s + 1 := by
  unfold body
  split
  · exact Nat.le_succ _
  · split
    · simp only [meas]
      split <;> split <;> omega
    · simp only [meas, List.length_drop]
      generalize Int.toNat _ = m
      rw [if_neg (by decide)]
      split <;> omega
theorem after_meas {sizes : List Int} {s s' : St} {k : Nat} {it : It} (h : next s = (s', some it)) : meas (after sizes s' k it) + 1 ≤ meas s := by
  obtain ⟨h1, h2⟩ := next_meas h
  unfold after
  split
  · rename_i hk
    have := h2 hk
    split
    · rename_i n _
      have := body_meas (s := s') n
      omega
    · omega
  · omega

/-! ### what a drain leaves -/
def DrainPost (w : World) (r p : Nat) (A Ai : Option Addr) (bs : List Loc) (Az : Option Addr) (nz cz : Nat) (s : St) (k : Nat) (its : List It) (sizes : List Int) (v : Value) (w' : World) : Prop :=
  ∃ A' cap' Ai' ci' bs' s' k' l, v = .tuple #[] ∧ Drains sizes s k l s' k' ∧ RD w' r p A' cap' Ai' ci' bs' Az nz cz s' k' (its ++ l) ∧ Mod (foot3 r p A Ai bs) w w' ∧
    ∀ j, foot3 r p A' Ai' bs' j → foot3 r p A Ai bs j ∨ w.heap.size ≤ j
/-- At the head of a round of the drain. -/
structure DHead (w wr : World) (r p : Nat) (A Ai : Option Addr) (bs : List Loc) (Az : Option Addr) (nz cz : Nat) (s : St) (k : Nat) (its : List It) (sizes : List Int) (s1 : St) (k1 : Nat) (l1 : List It) : Prop where
  rd : ∃ A' cap' Ai' ci' bs', RD wr r p A' cap' Ai' ci' bs' Az nz cz s1 k1 (its ++ l1) ∧ ∀ j, foot3 r p A' Ai' bs' j → foot3 r p A Ai bs j ∨ w.heap.size ≤ j
  mod : Mod (foot3 r p A Ai bs) w wr
  go : ∀ l2 s' k', Drains sizes s1 k1 l2 s' k' → Drains sizes s k (l1 ++ l2) s' k'
  num : (its ++ l1).length + meas s1 ≤ its.length + meas s ∧ k1 ≤ (its ++ l1).length

section
variable {w W : World} {r p : Nat} {A Ai : Option Addr} {cap ci : Nat} {bs : List Loc} {Az : Option Addr} {nz cz : Nat} {s : St} {k : Nat} {its : List It}
theorem RD.ne_p (h : RD w r p A cap Ai ci bs Az nz cz s k its) : r ≠ p := h.blk.ne h.inn.blk (by decide)
theorem RD.lt (h : RD w r p A cap Ai ci bs Az nz cz s k its) (j : Nat) (hj : foot3 r p A Ai bs j) : j < w.heap.size := by
  rcases hj with rfl | hj | hj | ⟨b, hb, hj⟩
  · exact h.blk.lt
  · exact h.inn.lt j hj
  · exact h.own.lt j hj
  · obtain ⟨i, hi, rfl⟩ := List.getElem_of_mem hb
    exact (h.bod i (by rw [← h.len]; exact hi) hi).1.lt j hj
/-- A block that lies in an owned row has the row's type. -/
theorem own_blk {e size n : Nat} {xs : List Value} (h : Own w e size A n cap xs) (j : Nat) (hj : InB A j) : ∃ c, Blk w j c e := by
  obtain ⟨_, _, _, ⟨rfl, _⟩ | ⟨g, off, cur, rfl, hb, _⟩⟩ := h
  · simp at hj
  · simp at hj
    subst hj
    exact ⟨_, hb⟩
theorem own_ne {e e' size size' n n' cap' : Nat} {A' : Option Addr} {xs xs' : List Value} (h : Own w e size A n cap xs) (h' : Own w e' size' A' n' cap' xs') (hne : e ≠ e') (j : Nat) (hj : InB A j) : ¬ InB A' j := fun hj' => by
  obtain ⟨c, hc⟩ := own_blk h j hj
  obtain ⟨c', hc'⟩ := own_blk h' j hj'
  exact hc.ne hc' hne rfl
theorem own_blk_ne {e e' size n b : Nat} {xs c : List Value} (h : Own w e size A n cap xs) (hb : Blk w b c e') (hne : e ≠ e') : ¬ InB A b := fun hj => by
  obtain ⟨c', hc⟩ := own_blk h b hj
  exact hc.ne hb hne rfl
/-- A quiet step. -/
theorem RD.mod {S : Nat → Prop} (h : RD w r p A cap Ai ci bs Az nz cz s k its) (hm : Mod S w W) (hn : ∀ j, foot3 r p A Ai bs j → ¬ S j) : RD W r p A cap Ai ci bs Az nz cz s k its :=
  ⟨h.blk.mod hm (hn r (.inl rfl)), h.inn.mod hm fun j hj => hn j (.inr (.inl hj)), h.own.mod hm fun j hj => hn j (.inr (.inr (.inl hj))), h.len, fun i hi hi' =>
    ⟨(h.bod i hi hi').1.mod hm fun j hj => hn j (.inr (.inr (.inr ⟨_, List.getElem_mem hi', hj⟩))), (h.bod i hi hi').2⟩⟩
end
end Go.Proofs.Ytoeaaomgilgncaa
