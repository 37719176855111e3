/-
  IntakeBounds, the plain law: what holds of an intake between its steps.
-/
import Derived.Test.YtoeaaomgilgncaaWalks7
namespace Go.Proofs.Ytoeaaomgilgncaa
open Go.RowKit Go.Mem Go.Intake
set_option linter.unusedVariables false

/-- Between the steps: 'L' bytes were let go of what was not told yet. -/
structure Inv (max : Int) (s : St) (came told bound size L : Int) : Prop where
  most : s.most = max
  acc : told + s.held.length + L ≤ came
  told0 : 0 ≤ told
  l0 : 0 ≤ L
  l1 : s.stands = 1 → 224 ≤ L ∧ (s.ended = true → 225 ≤ L) ∧ (s.ended = false → s.held = [])
  l2 : s.stands = 2 → s.size = size ∧ size ≤ max ∧ bound = size + 1
  l3 : s.stands = 3 → L = size + 2 - s.left ∧ max < size ∧ (0 < s.left → s.held = [])
  b : s.stands ≠ 2 → bound = 223
  sz : 0 ≤ size ∧ size ≤ 4294967295

theorem skipLine_acc (h : Bool) (bs : List UInt8) : (skipLine h bs).2.1 = false → (skipLine h bs).2.2 = [] := by
  induction bs generalizing h with
  | nil => simp [skipLine]
  | cons c r ih =>
    simp only [skipLine]
    split
    · simp
    · exact ih _
theorem skipLine_pos (h : Bool) (bs : List UInt8) : (skipLine h bs).2.1 = true → (skipLine h bs).2.2.length + 1 ≤ bs.length := by
  induction bs generalizing h with
  | nil => simp [skipLine]
  | cons c r ih =>
    simp only [skipLine]
    split
    · simp
    · intro hh
      have := ih _ hh
      simp
      omega
/-- Where the end of a line is that begins here: no end stands ahead of it. -/
theorem skipLine_far (bs : List UInt8) (n : Nat) (hf : ∀ j, j + 1 < n → ¬ (bs[j]? = some 13 ∧ bs[j + 1]? = some 10)) (hn : n ≤ bs.length) :
    ∀ k, k ≤ n → skipLine false bs = skipLine (decide (0 < k ∧ bs[k - 1]? = some 13)) (bs.drop k) := by
  intro k
  induction k with
  | zero => intro _; simp
  | succ k ih =>
    intro hk
    rw [ih (by omega), skipLine_at _ _ _ (by omega)]
    have hb : bs[k]? = some bs[k] := List.getElem?_eq_getElem (by omega)
    rw [if_neg]
    · congr 1
      rw [Bool.eq_iff_iff]
      simp [hb]
    · intro hc
      simp only [Bool.and_eq_true, decide_eq_true_eq, beq_iff_eq] at hc
      obtain ⟨⟨h1, h2⟩, h3⟩ := hc
      refine hf (k - 1) (by omega) ⟨h2, ?_⟩
      rw [show k - 1 + 1 = k from by omega, hb, h3]
theorem skipLine_long (bs : List UInt8) (hf : find (bs.take 224) = none) (hn : 224 ≤ bs.length) : (skipLine false bs).2.1 = true → (skipLine false bs).2.2.length + 225 ≤ bs.length := by
  have h1 := skipLine_far bs 224 (fun j hj hc => find_none hf j (by
    rw [List.getElem?_take, List.getElem?_take, if_pos (by omega), if_pos (by omega)]
    exact hc)) hn 224 (Nat.le_refl _)
  rw [h1]
  intro h
  have := skipLine_pos _ _ h
  rw [List.length_drop] at this
  omega

theorem inv_feed {max : Int} {s : St} {came told bound size L : Int} (h : Inv max s came told bound size L) (hok : s.Ok) (b : List UInt8) : ∃ L', Inv max (feed s b) (came + b.length) told bound size L' := by
  unfold feed
  have ha := h.acc
  by_cases h1 : s.stands = 1 ∧ s.ended = false
  · rw [if_pos h1]
    obtain ⟨g1, g2, g3⟩ := h.l1 h1.1
    have hh := g3 h1.2
    have hl := skipLine_len s.half b
    refine ⟨L + b.length - (skipLine s.half b).2.2.length, h.most, ?_, h.told0, ?_, fun _ => ⟨?_, ?_, ?_⟩, fun e => ?_, fun e => ?_, h.b, h.sz⟩
    · simp only [hh, List.nil_append]
      rw [hh] at ha
      simp at ha
      omega
    · have := h.l0
      omega
    · omega
    · intro he
      have := skipLine_pos s.half b he
      omega
    · intro he
      simp only [hh, List.nil_append]
      exact skipLine_acc _ _ he
    · simp only [h1.1] at e
      omega
    · simp only [h1.1] at e
      omega
  · rw [if_neg h1]
    by_cases h3 : s.stands = 3
    · rw [if_pos h3]
      obtain ⟨g1, g2, g3⟩ := h.l3 h3
      have hok := hok.left
      obtain ⟨q, hq⟩ := Int.eq_ofNat_of_zero_le (a := min s.left (b.length : Int)) (by omega)
      refine ⟨L + q, h.most, ?_, h.told0, by have := h.l0; omega, fun e => ?_, fun e => ?_, fun e => ⟨?_, g2, ?_⟩, h.b, h.sz⟩
      · simp only [hq, Int.toNat_natCast, List.length_append, List.length_drop]
        omega
      · simp only [h3] at e; omega
      · simp only [h3] at e; omega
      · simp only [hq]
        omega
      · simp only [hq, Int.toNat_natCast]
        intro hp
        have h0 := g3 (by omega)
        rw [h0, List.nil_append]
        exact List.drop_eq_nil_of_le (by omega)
    · rw [if_neg h3]
      refine ⟨L, h.most, ?_, h.told0, h.l0, fun e => ?_, fun e => h.l2 e, fun e => absurd e h3, h.b, h.sz⟩
      · simp only [List.length_append]
        omega
      · obtain ⟨g1, g2, g3⟩ := h.l1 e
        refine ⟨g1, g2, fun he => absurd ⟨e, he⟩ h1⟩

/-- How much is left to be told. -/
def meas (s : St) : Nat := 2 * s.held.length + if s.stands = 0 then 0 else 1

/-- What an item that is told means. -/
def ItemOk (max : Int) (s' : St) (came told size : Int) (it : It) : Prop :=
  (it.kind = 1 ∧ it.text.length ≤ 222 ∧ cut it.text = it.text ∧ ∃ L', Inv max s' came (told + it.text.length + 2) 223 size L') ∨
  (it.kind = 2 ∧ ∃ L', Inv max s' came (told + 225) 223 size L') ∨
  (it.kind = 3 ∧ (it.body.length : Int) = size ∧ size ≤ max ∧ ∃ L', Inv max s' came (told + size + 2) 223 size L') ∨
  (it.kind = 5 ∧ size ≤ max ∧ ∃ L', Inv max s' came (told + size + 2) 223 size L') ∨
  (it.kind = 4 ∧ max < size ∧ ∃ L', Inv max s' came (told + size + 2) 223 size L')

theorem inv_next1 {max : Int} {s : St} {came told bound size L : Int} (h : Inv max s came told bound size L) (hok : s.Ok) (h0 : s.stands ≠ 0) :
    ((next1 s).2 = none → (next1 s).1 = s ∧ (s.held.length : Int) ≤ bound) ∧ ∀ it, (next1 s).2 = some it → ItemOk max (next1 s).1 came told size it ∧ meas (next1 s).1 < meas s := by
  have ha := h.acc
  have ht := h.told0
  unfold next1
  by_cases h1 : s.stands = 1
  · rw [if_pos h1]
    obtain ⟨g1, g2, g3⟩ := h.l1 h1
    cases he : s.ended with
    | true =>
      refine ⟨fun e => by simp at e, fun it e => ?_⟩
      simp only [if_true, Option.some.injEq] at e ⊢
      subst e
      have := g2 he
      refine ⟨.inr (.inl ⟨rfl, 0, h.most, ?_, by omega, Int.le_refl _, fun e => by simp at e, fun e => by simp at e, fun e => by simp at e, fun _ => rfl, h.sz⟩), ?_⟩
      · simp only []; omega
      · simp [meas, h1]
    | false =>
      refine ⟨fun _ => ⟨rfl, ?_⟩, fun it e => by simp at e⟩
      have hh := g3 he
      have hb := h.b (by omega)
      rw [hh]
      simp
      omega
  · rw [if_neg h1]
    by_cases h2 : s.stands = 2
    · rw [if_pos h2]
      obtain ⟨g1, g2, g3⟩ := h.l2 h2
      have hsz := h.sz
      by_cases hl : (s.held.length : Int) < s.size + 2
      · rw [if_pos hl]
        refine ⟨fun _ => ⟨rfl, by omega⟩, fun it e => by simp at e⟩
      · rw [if_neg hl]
        refine ⟨fun e => by simp at e, fun it e => ?_⟩
        obtain ⟨n, hn⟩ := Int.eq_ofNat_of_zero_le (a := s.size) (by omega)
        simp only [Option.some.injEq] at e ⊢
        simp only [hn, Int.toNat_natCast] at e ⊢
        have hinv : Inv max { s with stands := 0, held := s.held.drop (n + 2), size := (n : Int) } came (told + size + 2) 223 size 0 := by
          refine ⟨h.most, ?_, by omega, Int.le_refl _, fun e => by simp at e, fun e => by simp at e, fun e => by simp at e, fun _ => rfl, h.sz⟩
          simp only [List.length_drop]
          have := h.l0
          omega
        refine ⟨?_, ?_⟩
        · split at e
          · subst e
            refine .inr (.inr (.inl ⟨rfl, ?_, g2, 0, hinv⟩))
            simp only [item, List.length_take]
            omega
          · subst e
            exact .inr (.inr (.inr (.inl ⟨rfl, g2, 0, hinv⟩)))
        · simp only [meas, h2, List.length_drop]
          simp
          omega
    · rw [if_neg h2]
      have h3 : s.stands = 3 := by have := hok.stands; omega
      obtain ⟨g1, g2, g3⟩ := h.l3 h3
      by_cases hl : s.left > 0
      · rw [if_pos hl]
        refine ⟨fun _ => ⟨rfl, ?_⟩, fun it e => by simp at e⟩
        have hb := h.b (by omega)
        rw [g3 hl]
        simp
        omega
      · rw [if_neg hl]
        refine ⟨fun e => by simp at e, fun it e => ?_⟩
        simp only [Option.some.injEq] at e ⊢
        subst e
        have hlf := hok.left
        refine ⟨.inr (.inr (.inr (.inr ⟨rfl, g2, 0, h.most, ?_, by have := h.sz; omega, Int.le_refl _, fun e => by simp at e, fun e => by simp at e, fun e => by simp at e, fun _ => rfl, h.sz⟩))), ?_⟩
        · simp only []; omega
        · simp [meas, h3]

theorem inv_next {max : Int} {s : St} {came told bound size L : Int} (h : Inv max s came told bound size L) (hok : s.Ok) :
    ((next s).2 = none → ∃ L', Inv max (next s).1 came told bound size L' ∧ ((next s).1.held.length : Int) ≤ bound) ∧ ∀ it, (next s).2 = some it → ItemOk max (next s).1 came told size it ∧ meas (next s).1 < meas s := by
  have ha := h.acc
  have ht := h.told0
  unfold next
  by_cases h0 : s.stands = 0
  · rw [if_pos h0]
    have hb := h.b (by omega)
    cases hf : find (s.held.take 224) with
    | some k =>
      simp only []
      have hk := find_lt hf
      rw [List.length_take] at hk
      refine ⟨fun e => by simp at e, fun it e => ?_⟩
      simp only [Option.some.injEq] at e
      subst e
      have htl : (s.held.take k).length = k := by rw [List.length_take]; omega
      refine ⟨.inl ⟨rfl, ?_, ?_, 0, h.most, ?_, ?_, Int.le_refl _, fun e => ?_, fun e => ?_, fun e => ?_, fun _ => rfl, h.sz⟩, ?_⟩
      · simp only [item, htl]; omega
      · show cut (s.held.take k) = s.held.take k
        unfold cut
        rw [find_not]
        intro j hj hc
        rw [htl] at hj
        refine (find_some hf).2 j (by omega) ?_
        rw [List.getElem?_take, List.getElem?_take, if_pos (by omega), if_pos (by omega)]
        rw [List.getElem?_take, List.getElem?_take, if_pos (by omega), if_pos (by omega)] at hc
        exact hc
      · simp only [item, htl, List.length_drop]
        have := h.l0
        omega
      · simp only [item, htl]; omega
      · simp only [h0] at e; omega
      · simp only [h0] at e; omega
      · simp only [h0] at e; omega
      · simp only [meas, h0, List.length_drop]
        simp
        omega
    | none =>
      simp only []
      by_cases hl : s.held.length < 224
      · rw [if_pos hl]
        exact ⟨fun _ => ⟨L, h, by simp only []; omega⟩, fun it e => by simp at e⟩
      · rw [if_neg hl]
        -- a long line begins
        have hst := long_stands s
        have hll := skipLine_len false s.held
        have hlong : long s = { s with stands := 1, half := (skipLine false s.held).1, ended := (skipLine false s.held).2.1, held := (skipLine false s.held).2.2 } := by
          unfold long feed
          simp
        have hL : ∃ L', Inv max (long s) came told bound size L' := by
          rw [hlong]
          refine ⟨L + s.held.length - (skipLine false s.held).2.2.length, h.most, ?_, ht, ?_, fun _ => ⟨?_, fun he => ?_, fun he => skipLine_acc _ _ he⟩, fun e => by simp at e, fun e => by simp at e, fun _ => hb, h.sz⟩
          · simp only []; omega
          · have := h.l0; omega
          · have := h.l0
            cases he : (skipLine false s.held).2.1 with
            | true => have := skipLine_long s.held hf (by omega) he; omega
            | false => rw [skipLine_acc _ _ he]; simp; omega
          · have := h.l0
            have := skipLine_long s.held hf (by omega) he; omega
        have hmle : meas (long s) < meas s := by
          rw [hlong]
          simp only [meas, h0]
          cases he : (skipLine false s.held).2.1 with
          | true => have := skipLine_long s.held hf (by omega) he; simp; omega
          | false => rw [skipLine_acc _ _ he]; simp; omega
        obtain ⟨L', hL'⟩ := hL
        have hok' : (long s).Ok := by
          rw [hlong]
          exact ⟨hok.1, .inr (.inl rfl), hok.3, hok.4⟩
        obtain ⟨r1, r2⟩ := inv_next1 hL' hok' (by omega)
        refine ⟨fun e => ?_, fun it e => ?_⟩
        · obtain ⟨e1, e2⟩ := r1 e
          rw [e1]
          exact ⟨L', hL', e2⟩
        · obtain ⟨e1, e2⟩ := r2 it e
          exact ⟨e1, by omega⟩
  · rw [if_neg h0]
    obtain ⟨r1, r2⟩ := inv_next1 h hok h0
    refine ⟨fun e => ?_, r2⟩
    obtain ⟨e1, e2⟩ := r1 e
    rw [e1]
    exact ⟨L, h, e2⟩

theorem inv_body {max : Int} {s : St} {came told bound size L : Int} (h : Inv max s came told bound size L) (hok : s.Ok) (n : Int) (hz : (body s n).2 = 0) :
    (0 ≤ n ∧ n ≤ 4294967295) ∧ ∃ L', Inv max (body s n).1 came told (if n ≤ max then n + 1 else 223) n L' := by
  have ha := h.acc
  unfold body at hz ⊢
  by_cases hb : n < 0 ∨ n > 4294967295 ∨ s.stands ≠ 0
  · rw [if_pos hb] at hz
    simp at hz
  · rw [if_neg hb] at hz ⊢
    have hm := h.most
    by_cases hn : n ≤ s.most
    · rw [if_pos hn]
      refine ⟨by omega, L, hm, ha, h.told0, h.l0, fun e => by simp at e, fun _ => ⟨rfl, by omega, by rw [if_pos (by omega)]⟩, fun e => by simp at e, fun e => absurd rfl e, by omega⟩
    · rw [if_neg hn]
      obtain ⟨q, hq⟩ := Int.eq_ofNat_of_zero_le (a := min (n + 2) (s.held.length : Int)) (by omega)
      refine ⟨by omega, q, hm, ?_, h.told0, by omega, fun e => by simp at e, fun e => by simp at e, fun _ => ⟨?_, by omega, ?_⟩, fun _ => by rw [if_neg (by omega)], by omega⟩
      · simp only [hq, Int.toNat_natCast, List.length_drop]
        have := h.l0
        omega
      · simp only [hq]
        omega
      · simp only [hq, Int.toNat_natCast]
        intro hp
        exact List.drop_eq_nil_of_le (by omega)
theorem body_refused (s : St) (n : Int) (hz : (body s n).2 ≠ 0) : body s n = (s, 61) := by
  unfold body at hz ⊢
  split
  · rfl
  · rename_i h
    rw [if_neg h] at hz
    split at hz <;> simp at hz
theorem inv_new (m : Int) : Inv m (new m) 0 0 223 0 0 :=
  ⟨rfl, by simp [new], Int.le_refl _, Int.le_refl _, fun e => by simp [new] at e, fun e => by simp [new] at e, fun e => by simp [new] at e, fun _ => rfl, by omega⟩
end Go.Proofs.Ytoeaaomgilgncaa
