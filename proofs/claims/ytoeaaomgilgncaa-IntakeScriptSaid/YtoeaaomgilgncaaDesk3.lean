/-
  IntakeScript: the book of bodies that were handed out: what its owner does to them, in memory.
-/
import Derived.Test.YtoeaaomgilgncaaDesk2
namespace Go.Proofs.Ytoeaaomgilgncaa
open Go.RowKit Go.Mem Go.Intake
set_option linter.unusedVariables false

/-! ### One place of two lists of things -/
theorem map_erase {α : Type} (f : α → Ast) (l : List α) (j : Nat) (hj : j < l.length) : (l.map f).Perm (f l[j] :: (l.eraseIdx j).map f) := by
  induction l generalizing j with
  | nil => exact absurd hj (Nat.not_lt_zero _)
  | cons a l ih =>
    cases j with
    | zero => exact List.Perm.refl _
    | succ j =>
      simp only [List.map_cons, List.getElem_cons_succ, List.eraseIdx_cons_succ]
      exact ((ih j (by simpa using hj)).cons _).trans (List.Perm.swap _ _ _)
theorem map_set_erase {α : Type} (f : α → Ast) (l : List α) (j : Nat) (hj : j < l.length) (x : α) : ((l.set j x).map f).Perm (f x :: (l.eraseIdx j).map f) := by
  have := map_erase f (l.set j x) j (by simpa using hj)
  simpa [List.eraseIdx_set_eq] using this
theorem Holds.zoom2 {α β : Type} {f : α → Ast} {g : β → Ast} {w0 w : World} {l0 R : List Ast} {l : List α} {m : List β} (h : Holds w0 w (l0 ++ (l.map f ++ (m.map g ++ R)))) (j : Nat) (hj : j < l.length) (hj' : j < m.length) :
    ∃ R', Holds w0 w (l0 ++ (f l[j] :: g m[j] :: R')) ∧ ∀ {w' : World} {l0' : List Ast} {x : α} {y : β}, Holds w0 w' (l0' ++ (f x :: g y :: R')) → Holds w0 w' (l0' ++ ((l.set j x).map f ++ ((m.set j y).map g ++ R))) := by
  have hp : ∀ (a b : Ast) (L M : List Ast), ((a :: L) ++ ((b :: M) ++ R)).Perm (a :: b :: (L ++ (M ++ R))) := fun a b L M => by
    simp only [List.cons_append]
    exact List.Perm.cons _ List.perm_middle
  refine ⟨(l.eraseIdx j).map f ++ ((m.eraseIdx j).map g ++ R), h.perm (List.Perm.append_left _ ?_), fun {w' l0' x y} h' => h'.perm (List.Perm.append_left _ ?_)⟩
  · exact ((map_erase f l j hj).append ((map_erase g m j hj').append_right R)).trans (hp _ _ _ _)
  · exact (((map_set_erase f l j hj x).append ((map_set_erase g m j hj' y).append_right R)).trans (hp _ _ _ _)).symm
theorem Holds.split_at {α : Type} {f : α → Ast} {w0 w : World} {l0 R : List Ast} {l : List α} (h : Holds w0 w (l0 ++ (l.map f ++ R))) (a : α) (t : List α) (ht : l = a :: t) : Holds w0 w (f a :: (l0 ++ (t.map f ++ R))) := by
  subst ht
  exact h.front

/-! ### Bytes that are read alone -/
theorem Holds.old_nil {w0 w : World} {R : List Ast} (h : Holds w0 w R) : Holds w0 w (aOld [] :: R) :=
  h.cons (P := aOld []) (S := fun _ => False) (Mod.refl _ _) ⟨fun _ h => h.elim, fun o ho => by simp at ho⟩ fun _ h => h.elim
theorem Holds.old_get {w0 w : World} {R : List Ast} {l : List OB} (h : Holds w0 w (aOld l :: R)) : RdL w l := by
  obtain ⟨S, h1, _⟩ := h.head
  exact fun o ho => (h1.2 o ho).1
/-- What can be read of it, with the first list. -/
theorem Holds.old_add {w0 w : World} {R : List Ast} {l m : List OB} {P : Ast} (h : Holds w0 w (P :: aOld l :: R)) (hP : ∀ S, P.holds w S → ∀ o ∈ m, RdB w o.addr o.n o.cap o.bytes ∧ ∀ k, InB o.addr k → S k) : Holds w0 w (aOld (l ++ m) :: R) := by
  obtain ⟨S, ⟨S1, _, h1, ⟨S2, _, h2, _, _, h6, _⟩, h3, h4, h5⟩, hS, hst⟩ := Holds.step (l := [P, aOld l]) h
  refine hst (w' := w) (l' := [aOld (l ++ m)]) (S' := fun k => S1 k ∨ S2 k) ⟨fun k => S1 k ∨ S2 k, fun _ => False, ⟨fun k hk => ?_, fun o ho => ?_⟩, trivial, fun _ _ h => h, fun _ h => h, fun _ h => h.elim⟩ (Mod.refl _ _) fun k hk => .inl ?_
  · rcases hk with hk | hk
    · exact P.lt h1 k hk
    · exact h2.1 k hk
  · rcases List.mem_append.1 ho with ho | ho
    · exact ⟨(h2.2 o ho).1, fun k hk => .inr ((h2.2 o ho).2 k hk)⟩
    · exact ⟨(hP S1 h1 o ho).1, fun k hk => .inl ((hP S1 h1 o ho).2 k hk)⟩
  · rcases hk with hk | hk
    · exact h4 k hk
    · exact h5 k (h6 k hk)
theorem Holds.old_own {w0 w : World} {R : List Ast} {l : List OB} {o : OB} (h : Holds w0 w (aO o :: aOld l :: R)) : Holds w0 w (aOld (l ++ [o]) :: R) :=
  Holds.old_add h fun S hS o' ho' => by
    obtain rfl : o' = o := by simpa using ho'
    exact ⟨hS.1.rd, fun k hk => (hS.2 k).2 hk⟩
theorem Holds.old_owns {w0 w : World} {R : List Ast} {m : List OB} : ∀ {l : List OB}, Holds w0 w (aOld l :: (m.map aO ++ R)) → Holds w0 w (aOld (l ++ m) :: R) := by
  induction m with
  | nil => intro l h; simpa using h
  | cons o m ih =>
    intro l h
    have := ih (Holds.old_own (Holds.swap h))
    simpa using this

theorem holds_rd {w0 w : World} {l0 R : List Ast} {m : List OB} (h : Holds w0 w (l0 ++ (m.map aO ++ R))) : RdL w m := by
  have h1 := Holds.old_owns (Holds.old_nil (Holds.drop h))
  have := Holds.old_get h1
  simpa using this
theorem Holds.old_sub {w0 w : World} {R : List Ast} {l m : List OB} (h : Holds w0 w (aOld l :: R)) (hs : ∀ o ∈ m, o ∈ l) : Holds w0 w (aOld m :: R) := by
  obtain ⟨S, ⟨h1, h2⟩, h3, h4⟩ := h.step1
  exact h4 (Q := aOld m) (S' := S) ⟨h1, fun o ho => h2 o (hs o ho)⟩ (Mod.refl _ _) fun k hk => .inl hk

/-! ### A slice that grows, beside what it grew from -/
def aGrow (o b : OB) : Ast where
  holds w S := Own w 5 1 b.addr b.n b.cap (bc b.bytes) ∧ RdB w o.addr o.n o.cap o.bytes ∧ (∀ k, InB o.addr k → k < w.heap.size) ∧ (∀ k, S k ↔ InB b.addr k ∨ InB o.addr k) ∧ ((b.addr = o.addr ∧ o.n ≤ b.n ∧ b.bytes.take o.n = o.bytes) ∨ ∀ k, InB b.addr k → ¬ InB o.addr k)
  lt h k hk := by
    obtain ⟨h1, h2, h3, h4, h5⟩ := h
    rcases (h4 k).1 hk with h | h
    · exact h1.lt k h
    · exact h3 k h
  mod h hm hn := by
    obtain ⟨h1, h2, h3, h4, h5⟩ := h
    exact ⟨h1.mod hm fun k hk => hn k ((h4 k).2 (.inl hk)), h2.mod hm fun k hk => hn k ((h4 k).2 (.inr hk)), fun k hk => Nat.lt_of_lt_of_le (h3 k hk) hm.size, h4, h5⟩
theorem Holds.grow_start {w0 w : World} {R : List Ast} {o : OB} (h : Holds w0 w (aO o :: R)) : Holds w0 w (aGrow o o :: R) := by
  obtain ⟨S, ⟨h1, h2⟩, h3, h4⟩ := h.step1
  refine h4 (Q := aGrow o o) (S' := S) ⟨h1, h1.rd, h1.lt, fun k => ⟨fun hk => .inl ((h2 k).1 hk), fun hk => (h2 k).2 (hk.elim id id)⟩, .inl ⟨rfl, Nat.le_refl _, List.take_of_length_le (by rw [h1.blen]; exact Nat.le_refl _)⟩⟩ (Mod.refl _ _) fun k hk => .inl hk
theorem Holds.grow_own {w0 w : World} {R : List Ast} {o b : OB} (h : Holds w0 w (aGrow o b :: R)) : Own w 5 1 b.addr b.n b.cap (bc b.bytes) := by
  obtain ⟨S, h1, _⟩ := h.head
  exact h1.1
theorem Holds.grow_step {w0 w w' : World} {R : List Ast} {o b : OB} {A' : Option Addr} {m cap' : Nat} {l : List UInt8} (h : Holds w0 w (aGrow o b :: R)) (ho : Own w' 5 1 A' (b.n + m) cap' (bc b.bytes ++ bc l)) (hm : Mod (InB b.addr) w w') (hin : ∀ k, InB A' k → InB b.addr k ∨ w.heap.size ≤ k)
    (hk : (A' = b.addr ∧ cap' = b.cap) ∨ (Mod (fun _ => False) w w' ∧ ∀ k, InB A' k → w.heap.size ≤ k)) : Holds w0 w' (aGrow o ⟨A', b.n + m, cap', b.bytes ++ l⟩ :: R) := by
  obtain ⟨S, ⟨h1, h2, h3, h4, h5⟩, hlt, hst⟩ := h.step1
  rw [← bc_append] at ho
  have hbl := h1.blen
  refine hst (Q := aGrow o ⟨A', b.n + m, cap', b.bytes ++ l⟩) (S' := fun k => InB A' k ∨ InB o.addr k) ?_ (hm.mono fun k _ hk => (h4 k).2 (.inl hk)) fun k hk => ?_
  · rcases hk with ⟨rfl, rfl⟩ | ⟨hq, hnew⟩
    · rcases h5 with ⟨e1, e2, e3⟩ | hd
      · refine ⟨ho, ?_, fun k hk => Nat.lt_of_lt_of_le (h3 k hk) hm.size, fun k => Iff.rfl, .inl ⟨e1, by simp only []; omega, by rw [List.take_append_of_le_length (by omega)]; exact e3⟩⟩
        refine ⟨h2.1, h2.2.1, h2.2.2.1, h2.2.2.2.1, fun j u hj => ?_⟩
        have hjl : j < o.bytes.length := by have := (List.getElem?_eq_some_iff.1 hj).1; simpa using this
        rw [← e1]
        refine ho.rd.2.2.2.2 j u ?_
        rw [← e3, bc, List.getElem?_map, List.getElem?_take] at hj
        rw [bc, List.getElem?_map]
        have hob := h2.blen
        rw [if_pos (by omega)] at hj
        rw [List.getElem?_append_left (by omega)]
        exact hj
      · exact ⟨ho, h2.mod hm fun k hk hk' => hd k hk' hk, fun k hk => Nat.lt_of_lt_of_le (h3 k hk) hm.size, fun k => Iff.rfl, .inr hd⟩
    · exact ⟨ho, h2.mod hq fun _ _ h => h, fun k hk => Nat.lt_of_lt_of_le (h3 k hk) hm.size, fun k => Iff.rfl, .inr fun k hk hk' => by have := hnew k hk; have := h3 k hk'; omega⟩
  · rcases hk with hk | hk
    · exact (hin k hk).imp_left fun h => (h4 k).2 (.inl h)
    · exact .inl ((h4 k).2 (.inr hk))
theorem Holds.grow_end {w0 w : World} {R : List Ast} {l : List OB} {o b : OB} (h : Holds w0 w (aGrow o b :: aOld l :: R)) : Holds w0 w (aOld (l ++ [o, b]) :: R) :=
  Holds.old_add h fun S hS o' ho' => by
    obtain ⟨h1, h2, h3, h4, h5⟩ := hS
    rcases List.mem_cons.1 ho' with rfl | ho'
    · exact ⟨h2, fun k hk => (h4 k).2 (.inr hk)⟩
    · obtain rfl : o' = b := by simpa using ho'
      exact ⟨h1.rd, fun k hk => (h4 k).2 (.inl hk)⟩
/-- A one-cell element is stored. -/
theorem Holds.own_set1 {w0 w : World} {R : List Ast} {e n cap g off : Nat} {xs : List Value} (h : Holds w0 w (aOwn e 1 (some ⟨g, off, none⟩) n cap xs :: R)) (k : Nat) (hk : k < xs.length) (v : Value) :
    Holds w0 (w.setCell ⟨g, off + k, none⟩ v) (aOwn e 1 (some ⟨g, off, none⟩) n cap (xs.set k v) :: R) := by
  obtain ⟨S, ⟨h1, h2⟩, h3, h4⟩ := h.step1
  exact h4 (Q := aOwn e 1 (some ⟨g, off, none⟩) n cap (xs.set k v)) (S' := S) ⟨h1.set k hk v, h2⟩ ((Mod.refl _ w).setCell (fun _ => (h2 g).2 (by simp)) v) fun k hk => .inl hk
/-- A byte is stored. -/
theorem Holds.own_set {w0 w : World} {R : List Ast} {o : OB} {g off : Nat} (h : Holds w0 w (aO o :: R)) (ha : o.addr = some ⟨g, off, none⟩) (k : Nat) (hk : k < o.bytes.length) (c : UInt8) (v : Value) (hv : v = .int .u8 c.toNat) :
    Holds w0 (w.setCell ⟨g, off + k, none⟩ v) (aO { o with bytes := o.bytes.set k c } :: R) := by
  obtain ⟨S, ⟨h1, h2⟩, h3, h4⟩ := h.step1
  rw [ha] at h1
  have := h1.set k (by simpa using hk) v
  refine h4 (Q := aO { o with bytes := o.bytes.set k c }) (S' := S) ⟨?_, h2⟩ ((Mod.refl _ w).setCell (fun _ => (h2 g).2 (by rw [ha]; simp)) v) fun k hk => .inl hk
  subst hv
  rw [ha]
  simpa [bc, List.map_set] using this
end Go.Proofs.Ytoeaaomgilgncaa
