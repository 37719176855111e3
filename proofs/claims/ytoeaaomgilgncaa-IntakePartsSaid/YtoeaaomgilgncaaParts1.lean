/-
  IntakeParts, the plain law: what an intake that holds nothing tells of a part that it was fed; and what the walk keeps of memory.
-/
import Derived.Test.YtoeaaomgilgncaaWalks11
namespace Go.Proofs.Ytoeaaomgilgncaa
open Go.RowKit Go.Mem Go.Intake
set_option linter.unusedVariables false

/-! ### the plain law -/
theorem find_cut (t : List UInt8) : find (cut t) = none := by
  unfold cut
  cases h : find t with
  | none => exact h
  | some k =>
    refine find_not fun j hj hc => ?_
    simp only [List.length_take] at hj
    rw [List.getElem?_take, List.getElem?_take, if_pos (by omega), if_pos (by omega)] at hc
    exact (find_some h).2 j (by omega) hc
theorem find_said (l r : List UInt8) (h : find l = none) : find (l ++ 13 :: 10 :: r) = some l.length := by
  refine find_is ⟨by simp, by simp⟩ fun j hj hc => ?_
  rcases Nat.lt_or_ge (j + 1) l.length with h1 | h1
  · rw [List.getElem?_append_left (by omega), List.getElem?_append_left h1] at hc
    exact find_none h j hc
  · obtain h2 : j + 1 = l.length := by omega
    rw [h2, List.getElem?_append_right (Nat.le_refl _)] at hc
    simp at hc
theorem next_line {s : St} (h : s.stands = 0) (l r : List UInt8) (hf : find l = none) (hl : l.length ≤ 222) :
    next { s with held := l ++ 13 :: 10 :: r } = ({ s with held := r }, some (item 1 l [])) := by
  unfold next
  have h1 : find ((l ++ 13 :: 10 :: r).take 224) = some l.length := by
    rw [List.take_append, List.take_of_length_le (by omega)]
    obtain ⟨m, hm⟩ : ∃ m, 224 - l.length = m + 2 := ⟨222 - l.length, by omega⟩
    rw [hm]
    simp only [List.take_succ_cons]
    exact find_said l _ hf
  simp only [h, if_true, h1]
  congr 2
  · rw [List.drop_append, List.drop_of_length_le (by omega)]
    simp
  · simp
theorem skipLine_end (l : List UInt8) (hf : find l = none) (h : Bool) (hh : h = true → l.head? ≠ some 10) : skipLine h (l ++ [13, 10]) = (true, true, []) := by
  induction l generalizing h with
  | nil => cases h <;> rfl
  | cons c r ih =>
    simp only [List.cons_append, skipLine]
    rw [if_neg]
    · refine ih ?_ _ fun hc hr => ?_
      · exact find_not fun j hj hx => find_none hf (j + 1) (by simpa using hx)
      · have hc : c = 13 := by simpa using hc
        have := find_none hf 0
        simp [hc, List.head?_eq_getElem?] at this hr
        exact this hr
    · intro hx
      simp only [Bool.and_eq_true, beq_iff_eq] at hx
      exact hh hx.1 (by simp [hx.2])
theorem find_take_none (l r : List UInt8) (hf : find l = none) (hl : 222 < l.length) : find ((l ++ 13 :: 10 :: r).take 224) = none := by
  refine find_not fun j hj hx => ?_
  simp only [List.length_take] at hj
  rw [List.getElem?_take, List.getElem?_take, if_pos (by omega), if_pos (by omega)] at hx
  rcases Nat.lt_or_ge (j + 1) l.length with h1 | h1
  · rw [List.getElem?_append_left (by omega), List.getElem?_append_left h1] at hx
    exact find_none hf j hx
  · obtain h2 : j + 1 = l.length := by omega
    rw [h2, List.getElem?_append_right (Nat.le_refl _)] at hx
    simp at hx
theorem next_long {s : St} (h : s.stands = 0) (l : List UInt8) (hf : find l = none) (hl : 222 < l.length) :
    next { s with held := l ++ [13, 10] } = ({ s with held := [], half := true, ended := true }, some (item 2 [] [])) := by
  unfold next
  have h1 := find_take_none l [] hf hl
  simp only [h, if_true, h1, List.length_append, List.length_cons, List.length_nil]
  rw [if_neg (by omega)]
  simp [long, feed, next1, skipLine_end l hf false (by simp), h]
theorem body_small {s : St} (h : s.stands = 0) (n : Int) (h0 : 0 ≤ n) (h1 : n ≤ 4294967295) (hm : n ≤ s.most) : body s n = ({ s with stands := 2, size := n }, 0) := by
  unfold body
  rw [if_neg (by rw [h]; omega), if_pos hm]
theorem next_body {s : St} (l : List UInt8) (broken : Bool) (h : s.stands = 2) (hn : s.size = l.length) :
    next { s with held := l ++ endOf broken } = ({ s with stands := 0, held := [] }, some (if broken then item 5 [] [] else item 3 [] l)) := by
  have hl : (endOf broken).length = 2 := by cases broken <;> rfl
  unfold next next1
  simp only [h, hn, List.length_append, hl]
  rw [if_neg (by decide), if_neg (by decide), if_pos trivial, if_neg (by omega)]
  rw [Int.toNat_natCast, List.getElem?_append_right (Nat.le_refl _), List.getElem?_append_right (by omega), List.drop_of_length_le (by rw [List.length_append, hl]; omega), List.take_left]
  cases broken <;> simp [endOf]
theorem body_big {s : St} (h : s.stands = 0) (l : List UInt8) (broken : Bool) (h1 : l.length ≤ 4294967295) (hm : s.most < l.length) :
    body { s with held := l ++ endOf broken } l.length = ({ s with stands := 3, left := 0, held := [] }, 0) := by
  have hl : (endOf broken).length = 2 := by cases broken <;> rfl
  unfold body
  simp only [h, List.length_append, hl]
  rw [if_neg (by omega), if_neg (by omega)]
  rw [show min ((l.length : Int) + 2) ((l.length + 2 : Nat) : Int) = (l.length : Int) + 2 from by omega, List.drop_of_length_le (by rw [List.length_append, hl]; omega)]
  simp
theorem next_big {s : St} (h : s.stands = 3) (hl : s.left = 0) : next s = ({ s with stands := 0 }, some (item 4 [] [])) := by
  unfold next next1
  rw [if_neg (by rw [h]; decide), if_neg (by rw [h]; decide), if_neg (by rw [h]; decide), if_neg (by omega)]
theorem next_none {s : St} (h : s.stands = 0) (hh : s.held = []) : next s = (s, none) := by
  unfold next
  rw [if_pos h, hh]
  rfl

/-! ### what the walk keeps -/
structure PH (w W : World) (p : Nat) (s : St) (A : Option Addr) (cap : Nat) (b : Nat) (xs : List Value) : Prop where
  inn : IsIn W p A cap s
  fo : ∀ k, foot p A k → w.heap.size ≤ k
  blo : Below w.heap.size w W
  blk : Blk W b xs 59
  ne : ¬ foot p A b
  new : w.heap.size ≤ b
section
variable {w W : World} {p : Nat} {s : St} {A : Option Addr} {cap : Nat} {b : Nat} {xs : List Value}
theorem PH.quiet {W' : World} (h : PH w W p s A cap b xs) (hm : Mod (fun _ => False) W W') : PH w W' p s A cap b xs :=
  ⟨h.inn.mod hm fun _ _ h => h, h.fo, h.blo.trans (hm.below h.blo.size fun _ _ h => h), h.blk.mod hm id, h.ne, h.new⟩
theorem PH.alloc (h : PH w W p s A cap b xs) (o : Obj) : PH w (W.alloc o) p s A cap b xs := h.quiet ((Mod.refl _ W).alloc o)
theorem PH.turn {W' : World} {A' : Option Addr} {cap' : Nat} {s' : St} (h : PH w W p s A cap b xs) (hm : Mod (foot p A) W W') (hin : IsIn W' p A' cap' s') (hA : ∀ k, InB A' k → InB A k ∨ W.heap.size ≤ k) : PH w W' p s' A' cap' b xs :=
  ⟨hin, fun k hk => by
    rcases hk with rfl | hk
    · exact h.fo k (.inl rfl)
    · rcases hA k hk with hk | hk
      · exact h.fo k (.inr hk)
      · exact Nat.le_trans h.blo.size hk, h.blo.trans (hm.below h.blo.size fun i hi hf => absurd (h.fo i hf) (by omega)), h.blk.mod hm h.ne, fun hk => by
    rcases hk with hk | hk
    · exact h.ne (.inl hk)
    · rcases hA b hk with hk | hk
      · exact h.ne (.inr hk)
      · exact absurd h.blk.lt (by omega), h.new⟩
theorem PH.store (h : PH w W p s A cap b xs) (i : Nat) (v : Value) : PH w (W.setCell ⟨b, i, none⟩ v) p s A cap b (xs.set i v) :=
  ⟨h.inn.mod (Mod.set W b i v) fun k hk e => h.ne (e ▸ hk), h.fo, h.blo.trans ((Mod.set W b i v).below h.blo.size fun j hj e => by have := h.new; omega), h.blk.store i v, h.ne, h.new⟩
end
/-- At the head of a round. -/
structure PHead (w wr : World) (p : Nat) (max : Int) (s : St) : Prop where
  inn : ∃ A cap, IsIn wr p A cap s ∧ ∀ k, foot p A k → w.heap.size ≤ k
  blo : Below w.heap.size w wr
  stands : s.stands = 0
  held : s.held = []
  most : s.most = max
end Go.Proofs.Ytoeaaomgilgncaa
