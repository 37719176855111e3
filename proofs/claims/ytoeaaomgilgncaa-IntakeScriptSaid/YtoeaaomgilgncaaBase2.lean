/-
  More of the vocabulary of memory: an append that tells whether it kept its array, a store into a slice, what an append leaves of the slice that it was given.
-/
import Derived.Test.YtoeaaomgilgncaaBase
import Derived.Deep.RegionLawGrows
import Derived.Deep.RegionHeld3
namespace Go.Mem
open Go.RowKit
set_option linter.unusedVariables false

theorem run_append2 {P : Program} (w : World) {t e size bytes : Nat} (ht : Elt P t e size bytes) (tx ty : TypeId) {A : Option Addr} {n cap : Nat} {xs : List Value} (ho : Own w e size A n cap xs)
    {x : Value} {m : Nat} {news : List Value} (hs : Src P size tx x m news w) (h63 : n + m ≤ maxLen) (hby : (n + m) * bytes ≤ 140737488355328) :
    ∃ A' cap' w', (Builtin.append_ #[t, tx] ty #[.slice A n cap, x]).run P w = .ok (.slice A' (n + m) cap') w' ∧ Own w' e size A' (n + m) cap' (xs ++ news) ∧ Mod (InB A) w w' ∧
      (∀ k, InB A' k → InB A k ∨ w.heap.size ≤ k) ∧ (A' = none ↔ A = none ∧ m = 0) ∧ ((A' = A ∧ cap' = cap) ∨ (Mod (fun _ => False) w w' ∧ ∀ k, InB A' k → w.heap.size ≤ k)) := by
  obtain ⟨i, z, hi, hz, rfl, rfl, hzs⟩ := ht.info
  have hmax := ho.max
  by_cases hr : n + m ≤ cap
  · -- there is room
    have hnl := hs.newsLen
    obtain ⟨hl, hle, hm, ⟨rfl, rfl⟩ | ⟨g, off, cur, rfl, hb, h4, h5⟩⟩ := ho
    · obtain rfl : n = 0 := by omega
      obtain rfl : m = 0 := by omega
      have hx0 : xs = [] := List.eq_nil_of_length_eq_zero (by simpa using hl)
      have hn0 : news = [] := List.eq_nil_of_length_eq_zero (by simpa using hnl)
      subst hx0 hn0
      refine ⟨none, 0, w, run_append_nothing w t tx ty e i ht.under hi none 0 0 (Nat.le_refl _) x hs, by simpa using Own.nil w e i.size, Mod.refl _ _, fun k hk => .inl hk, by simp, .inl ⟨rfl, rfl⟩⟩
    · have hcap : off + (n + m) * i.size ≤ cur.length := Nat.le_trans (Nat.add_le_add_left (Nat.mul_le_mul_right _ hr) _) h4
      rw [Nat.add_mul] at hcap
      refine ⟨some ⟨g, off, none⟩, cap, w.setCells g (off + n * i.size) news, ?_, ⟨?_, hr, hm, .inr ⟨g, off, _, rfl, hb.stores _ _ (by rw [hnl]; omega), ?_, ?_⟩⟩, (Mod.refl _ w).setCells (fun _ => by simp) _ _, fun k hk => .inl hk, by simp, .inl ⟨rfl, rfl⟩⟩
      · exact run_append_room_src w t tx ty e i ht.under hi g off n cap x m news hs hr
          (fun j hj => by rw [hb.cell, List.getElem?_eq_getElem (by omega)]; rfl) (fun j hj => hb.frozen _ (by omega))
      · rw [List.length_append, hl, hnl, Nat.add_mul]
      · simp only [List.length_append, List.length_take, List.length_drop]
        omega
      · have e1 : (cur.take (off + n * i.size) ++ news ++ cur.drop (off + n * i.size + news.length)).drop off = (cur.drop off).take (n * i.size) ++ news ++ cur.drop (off + n * i.size + news.length) := by
          rw [List.append_assoc, List.drop_append_of_le_length (by rw [List.length_take]; omega), ← List.append_assoc]
          congr 2
          rw [List.drop_take]
          congr 1
          omega
        rw [e1, h5, Nat.add_mul]
        apply List.take_left'
        rw [List.length_append, hl, hnl]
  · have hcn : A = none → cap = 0 := fun h => by subst h; exact ho.none_eq.2.1
    have holds : (Builtin.firstCells i.size n (.slice A n cap)).run P w.drew = .ok xs.toArray w.drew := by
      cases A with
      | none =>
        obtain ⟨rfl, rfl, rfl⟩ := ho.none_eq
        exact run_firstCells_none w.drew i.size 0 0 0
      | some a =>
        refine run_firstCells_some w.drew i.size n a n cap xs ho.len fun j u hu => ?_
        obtain ⟨g, off, ha, hc⟩ := ho.rd.2.2.2.2 j u hu
        cases ha
        rw [Addr.add_lit]
        exact hc
    have hge := grownCap_ge w (n + m) cap e
    have hcm : grownCap w (n + m) cap e ≤ maxLen := grownCap_le_maxLen w (n + m) cap e h63
    have hrun := run_append_grow_src w t tx ty e i z ht.under hi hz A n cap xs holds x m news hs (by omega) (by simp only [maxLen] at h63; omega) (growslice_fits (by omega) hby)
    have hlen : (xs ++ news).length = (n + m) * i.size := by rw [List.length_append, ho.len, hs.newsLen, Nat.add_mul]
    refine ⟨_, _, _, hrun, ⟨hlen, hge, hcm, .inr ⟨w.heap.size, 0, ((xs ++ news).toArray ++ Builtin.zeroCells z.cells (grownCap w (n + m) cap e - (n + m))).toList, rfl, ?_, ?_, ?_⟩⟩, ((Mod.refl _ w).drew.alloc _), fun k hk => ?_, ?_, .inr ⟨((Mod.refl _ w).drew.alloc _), fun k hk => ?_⟩⟩
    · refine Blk.of ?_
      rw [Array.toArray_toList]
      exact heap_alloc_new w.drew _
    · rw [Nat.zero_add, Array.length_toList, Array.size_append, size_zeroCells, hzs, List.size_toArray, hlen, ← Nat.add_mul]
      exact Nat.mul_le_mul_right _ (by omega)
    · rw [List.drop_zero, Array.toList_append]
      exact List.take_left' hlen
    · simp at hk
      omega
    · have : ¬ (A = none ∧ m = 0) := by
        rintro ⟨h, rfl⟩
        subst h
        obtain ⟨rfl, rfl, _⟩ := ho.none_eq
        omega
      simp [this]
    · simp at hk
      omega

theorem wpList_append2 {P : Program} (w : World) {ops : Array Oper} {rest : List Oper} {o : Oper} {a : Act} {Q : Exit → Act → World → Prop}
    (hg : o.guard = none) (s x : Operand) (t tx : TypeId) (hop : o.op = Op.call { callee := Callee.builtin Builtin.append, args := #[s, x], argTypes := #[t, tx] })
    {e size bytes : Nat} (ht : Elt P t e size bytes) (A : Option Addr) (n cap : Nat) (xs : List Value) (hs : a.eval s = .slice A n cap) (ho : Own w e size A n cap xs)
    (xv : Value) (m : Nat) (news : List Value) (hx : a.eval x = xv) (hsrc : Src P size tx xv m news w) (h63 : n + m ≤ maxLen) (hby : (n + m) * bytes ≤ 140737488355328)
    (hK : ∀ A' cap' w', Own w' e size A' (n + m) cap' (xs ++ news) → Mod (InB A) w w' → (∀ k, InB A' k → InB A k ∨ w.heap.size ≤ k) → (A' = none ↔ A = none ∧ m = 0) → ((A' = A ∧ cap' = cap) ∨ (Mod (fun _ => False) w w' ∧ ∀ k, InB A' k → w.heap.size ≤ k)) → wpList P ops Q rest (a.put o.dst (.slice A' (n + m) cap')) w') :
    wpList P ops Q (o :: rest) a w := by
  refine wpList_plain hg fun K hK' => ?_
  obtain ⟨A', cap', w', hrun, r1, r2, r3, r4, r5⟩ := run_append2 (P := P) w ht tx o.type ho hsrc h63 hby
  unfold Oper.wp
  simp [execOp, hop, resolve, invoke, builtin, hs, hx, hrun, Result.andThen]
  exact hK' _ _ (hK A' cap' w' r1 r2 r3 r4 r5)

theorem step_append2 {P : Program} {ops : Array Oper} {o : Oper} {a : Act} {w : World} {K : Act → World → Prop} {Q : Exit → Act → World → Prop} {E : Prop}
    (hg : o.guard = none) (s x : Operand) (t tx : TypeId) (hop : o.op = Op.call { callee := Callee.builtin Builtin.append, args := #[s, x], argTypes := #[t, tx] })
    {e size bytes : Nat} (ht : Elt P t e size bytes) (A : Option Addr) (n cap : Nat) (xs : List Value) (hs : a.eval s = .slice A n cap) (ho : Own w e size A n cap xs)
    (xv : Value) (m : Nat) (news : List Value) (hx : a.eval x = xv) (hsrc : Src P size tx xv m news w) (h63 : n + m ≤ maxLen) (hby : (n + m) * bytes ≤ 140737488355328)
    (hK : ∀ A' cap' w', Own w' e size A' (n + m) cap' (xs ++ news) → Mod (InB A) w w' → (∀ k, InB A' k → InB A k ∨ w.heap.size ≤ k) → ((A' = A ∧ cap' = cap) ∨ (Mod (fun _ => False) w w' ∧ ∀ k, InB A' k → w.heap.size ≤ k)) → K (a.put o.dst (.slice A' (n + m) cap')) w') :
    if Region.wanted o (yielded ops a.tmps) = true then Oper.wp P o a w K Q else E := by
  have hw : Region.wanted o (yielded ops a.tmps) = true := by simp [Region.wanted, hg]
  rw [if_pos hw]
  obtain ⟨A', cap', w', hrun, r1, r2, r3, _, r5⟩ := run_append2 (P := P) w ht tx o.type ho hsrc h63 hby
  unfold Oper.wp
  simp [execOp, hop, resolve, invoke, builtin, hs, hx, hrun, Result.andThen]
  exact hK _ _ _ r1 r2 r3 r5

/-- A store into a slice that may be written. -/
theorem Own.set {w : World} {e size n cap g off : Nat} {xs : List Value} (h : Own w e size (some ⟨g, off, none⟩) n cap xs) (j : Nat) (hj : j < xs.length) (v : Value) : Own (w.setCell ⟨g, off + j, none⟩ v) e size (some ⟨g, off, none⟩) n cap (xs.set j v) := by
  obtain ⟨hl, hle, hm, ⟨h, _⟩ | ⟨g', off', cur, e', hb, h4, h5⟩⟩ := h
  · cases h
  · cases e'
    refine ⟨by simpa using hl, hle, hm, .inr ⟨g, off, _, rfl, hb.store (off + j) v, by simpa using h4, ?_⟩⟩
    rw [← h5, List.drop_set, if_neg (by omega), List.take_set, Nat.add_sub_cancel_left]
theorem Own.cell {w : World} {e size n cap g off : Nat} {xs : List Value} (h : Own w e size (some ⟨g, off, none⟩) n cap xs) (j : Nat) (hj : j < xs.length) : w.cell? ⟨g, off + j, none⟩ = some xs[j] := by
  obtain ⟨g', off', e', hc⟩ := h.rd.at_ j hj
  cases e'
  exact hc
theorem Own.frozen {w : World} {e size n cap g off : Nat} {xs : List Value} (h : Own w e size (some ⟨g, off, none⟩) n cap xs) (j : Nat) (hj : j < xs.length) : w.frozen? ⟨g, off + j, none⟩ = false := by
  obtain ⟨hl, hle, hm, ⟨h, _⟩ | ⟨g', off', cur, e', hb, h4, h5⟩⟩ := h
  · cases h
  · cases e'
    have := Nat.mul_le_mul_right size hle
    exact hb.frozen _ (by omega)
theorem Own.some_of {w : World} {e size n cap : Nat} {A : Option Addr} {xs : List Value} (h : Own w e size A n cap xs) (hp : 0 < xs.length) : ∃ g off, A = some ⟨g, off, none⟩ := by
  obtain ⟨g, off, e', _⟩ := h.rd.at_ 0 hp
  exact ⟨g, off, e'⟩
/-- A beginning of what can be read. -/
theorem Rd.headed {w : World} {size n cap m : Nat} {A : Option Addr} {xs : List Value} (h : Rd w size A n cap xs) (hm : m ≤ n) : Rd w size A m cap (xs.take (m * size)) := by
  have := h.cut 0 m (Nat.zero_le _) hm
  simpa using this
/-- A slice's beginning whose capacity is kept: 's[:n]'. -/
theorem Own.headed {w : World} {e size n cap m : Nat} {A : Option Addr} {xs : List Value} (h : Own w e size A n cap xs) (hm : m ≤ n) : Own w e size A m cap (xs.take (m * size)) := by
  have := h.cut 0 m (Nat.zero_le _) hm
  simpa using this
end Go.Mem
