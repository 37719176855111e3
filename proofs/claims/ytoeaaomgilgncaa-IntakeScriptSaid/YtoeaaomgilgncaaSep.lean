/-
  Things that stand apart in memory: an assertion with the blocks that it owns ('Ast'), a list of them, each apart from the others ('Sep'), all of them newer than a first world ('Holds'); what a step does to one of them.
-/
import Derived.Test.YtoeaaomgilgncaaBase
namespace Go.Mem
open Go.RowKit
set_option linter.unusedVariables false

/-- What stands in memory, in these blocks. -/
structure Ast where
  holds : World → (Nat → Prop) → Prop
  lt : ∀ {w S}, holds w S → ∀ k, S k → k < w.heap.size
  mod : ∀ {w w' S T}, holds w S → Mod T w w' → (∀ k, S k → ¬ T k) → holds w' S

/-- Things apart, within these blocks. -/
def Sep (w : World) : List Ast → (Nat → Prop) → Prop
  | [], _ => True
  | P :: l, S => ∃ S1 S2, P.holds w S1 ∧ Sep w l S2 ∧ (∀ k, S1 k → ¬ S2 k) ∧ (∀ k, S1 k → S k) ∧ (∀ k, S2 k → S k)

theorem Sep.mono {w : World} {l : List Ast} {S T : Nat → Prop} (h : Sep w l S) (hs : ∀ k, S k → T k) : Sep w l T := by
  cases l with
  | nil => trivial
  | cons P l =>
    obtain ⟨S1, S2, h1, h2, h3, h4, h5⟩ := h
    exact ⟨S1, S2, h1, h2, h3, fun k hk => hs k (h4 k hk), fun k hk => hs k (h5 k hk)⟩
/-- The blocks can be narrowed to those that are there. -/
theorem Sep.lt {w : World} {l : List Ast} {S : Nat → Prop} (h : Sep w l S) : Sep w l (fun k => S k ∧ k < w.heap.size) := by
  induction l generalizing S with
  | nil => trivial
  | cons P l ih =>
    obtain ⟨S1, S2, h1, h2, h3, h4, h5⟩ := h
    exact ⟨S1, _, h1, ih h2, fun k hk hk' => h3 k hk hk'.1, fun k hk => ⟨h4 k hk, P.lt h1 k hk⟩, fun k hk => ⟨h5 k hk.1, hk.2⟩⟩
theorem Sep.mod {w w' : World} {l : List Ast} {S T : Nat → Prop} (h : Sep w l S) (hm : Mod T w w') (hn : ∀ k, S k → ¬ T k) : Sep w' l S := by
  induction l generalizing S with
  | nil => trivial
  | cons P l ih =>
    obtain ⟨S1, S2, h1, h2, h3, h4, h5⟩ := h
    exact ⟨S1, S2, P.mod h1 hm fun k hk => hn k (h4 k hk), ih h2 fun k hk => hn k (h5 k hk), h3, h4, h5⟩
theorem Sep.perm {w : World} {l l' : List Ast} (hp : l.Perm l') : ∀ {S : Nat → Prop}, Sep w l S → Sep w l' S := by
  induction hp with
  | nil => exact fun h => h
  | cons P _ ih =>
    rintro S ⟨S1, S2, h1, h2, h3, h4, h5⟩
    exact ⟨S1, S2, h1, ih h2, h3, h4, h5⟩
  | swap P Q l =>
    rintro S ⟨S1, S2, h1, ⟨T1, T2, k1, k2, k3, k4, k5⟩, h3, h4, h5⟩
    exact ⟨T1, fun k => S1 k ∨ T2 k, k1, ⟨S1, T2, h1, k2, fun k hk hk' => h3 k hk (k5 k hk'), fun k hk => .inl hk, fun k hk => .inr hk⟩, fun k hk hk' => by
      rcases hk' with hk' | hk'
      · exact h3 k hk' (k4 k hk)
      · exact k3 k hk hk', fun k hk => h5 k (k4 k hk), fun k hk => by
      rcases hk with hk | hk
      · exact h4 k hk
      · exact h5 k (k5 k hk)⟩
  | trans _ _ ih1 ih2 => exact fun h => ih2 (ih1 h)
theorem Sep.append {w : World} {l r : List Ast} {S : Nat → Prop} : Sep w (l ++ r) S ↔ ∃ S1 S2, Sep w l S1 ∧ Sep w r S2 ∧ (∀ k, S1 k → ¬ S2 k) ∧ (∀ k, S1 k → S k) ∧ (∀ k, S2 k → S k) := by
  induction l generalizing S with
  | nil => exact ⟨fun h => ⟨fun _ => False, S, trivial, h, fun _ h => h.elim, fun _ h => h.elim, fun _ h => h⟩, fun ⟨_, _, _, h, _, _, h5⟩ => h.mono h5⟩
  | cons P l ih =>
    constructor
    · rintro ⟨S1, S2, h1, h2, h3, h4, h5⟩
      obtain ⟨T1, T2, k1, k2, k3, k4, k5⟩ := ih.1 h2
      exact ⟨fun k => S1 k ∨ T1 k, T2, ⟨S1, T1, h1, k1, fun k hk hk' => h3 k hk (k4 k hk'), fun k hk => .inl hk, fun k hk => .inr hk⟩, k2, fun k hk hk' => by
        rcases hk with hk | hk
        · exact h3 k hk (k5 k hk')
        · exact k3 k hk hk', fun k hk => by
        rcases hk with hk | hk
        · exact h4 k hk
        · exact h5 k (k4 k hk), fun k hk => h5 k (k5 k hk)⟩
    · rintro ⟨S1, S2, ⟨T1, T2, k1, k2, k3, k4, k5⟩, h2, h3, h4, h5⟩
      exact ⟨T1, fun k => T2 k ∨ S2 k, k1, ih.2 ⟨T2, S2, k2, h2, fun k hk hk' => h3 k (k5 k hk) hk', fun k hk => .inl hk, fun k hk => .inr hk⟩, fun k hk hk' => by
        rcases hk' with hk' | hk'
        · exact k3 k hk hk'
        · exact h3 k (k4 k hk) hk', fun k hk => h4 k (k4 k hk), fun k hk => by
        rcases hk with hk | hk
        · exact h4 k (k5 k hk)
        · exact h5 k hk⟩

/-- Behind a first world w0, of which nothing has turned, these things stand apart, all of them new. -/
structure Holds (w0 w : World) (l : List Ast) : Prop where
  below : Below w0.heap.size w0 w
  sep : Sep w l (fun k => w0.heap.size ≤ k ∧ k < w.heap.size)

theorem Holds.start {w0 : World} : Holds w0 w0 [] := ⟨Below.refl _ _, trivial⟩
theorem Holds.of_sep {w0 w : World} {l : List Ast} {S : Nat → Prop} (hb : Below w0.heap.size w0 w) (h : Sep w l S) (hs : ∀ k, S k → w0.heap.size ≤ k) : Holds w0 w l := ⟨hb, h.lt.mono fun k hk => ⟨hs k hk.1, hk.2⟩⟩
theorem Holds.perm {w0 w : World} {l l' : List Ast} (h : Holds w0 w l) (hp : l.Perm l') : Holds w0 w l' := ⟨h.below, h.sep.perm hp⟩
theorem Holds.size {w0 w : World} {l : List Ast} (h : Holds w0 w l) : w0.heap.size ≤ w.heap.size := h.below.size
/-- A step that turns nothing of it. -/
theorem Holds.quiet {w0 w w' : World} {l : List Ast} (h : Holds w0 w l) (hm : Mod (fun _ => False) w w') : Holds w0 w' l :=
  .of_sep (h.below.trans (hm.below h.size fun _ _ h => h)) (h.sep.mod hm fun _ _ h => h) fun _ hk => hk.1
theorem Holds.alloc {w0 w : World} {l : List Ast} (h : Holds w0 w l) (o : Obj) : Holds w0 (w.alloc o) l := h.quiet ((Mod.refl _ w).alloc o)
theorem Holds.drew {w0 w : World} {l : List Ast} (h : Holds w0 w l) : Holds w0 w.drew l := h.quiet ((Mod.refl _ w).drew)
theorem Holds.drewN {w0 w : World} {l : List Ast} (h : Holds w0 w l) (n : Nat) : Holds w0 (w.drewN n) l := h.quiet ((Mod.refl _ w).drewN n)
theorem Holds.drop {w0 w : World} {l r : List Ast} (h : Holds w0 w (l ++ r)) : Holds w0 w r := by
  obtain ⟨S1, S2, _, h2, _, _, h5⟩ := Sep.append.1 h.sep
  exact .of_sep h.below h2 fun k hk => (h5 k hk).1
theorem Holds.take {w0 w : World} {l r : List Ast} (h : Holds w0 w (l ++ r)) : Holds w0 w l := by
  obtain ⟨S1, S2, h1, _, _, h4, _⟩ := Sep.append.1 h.sep
  exact .of_sep h.below h1 fun k hk => (h4 k hk).1
/-- What is new is apart. -/
theorem Holds.new {w0 w w' : World} {l r : List Ast} {S : Nat → Prop} (h : Holds w0 w r) (hm : Mod (fun _ => False) w w') (hl : Sep w' l S) (hS : ∀ k, S k → w.heap.size ≤ k) : Holds w0 w' (l ++ r) := by
  have h' := h.quiet hm
  refine .of_sep h'.below (S := fun k => w0.heap.size ≤ k) (Sep.append.2 ⟨S, _, hl, (h.sep.lt).mod hm fun _ _ h => h, fun k hk hk' => ?_, fun k hk => Nat.le_trans h.size (hS k hk), fun k hk => hk.1.1⟩) fun _ h => h
  have := hS k hk
  have := hk'.2
  omega
/-- A step that turns the first things, and no others. -/
theorem Holds.step {w0 w : World} {l r : List Ast} (h : Holds w0 w (l ++ r)) : ∃ S, Sep w l S ∧ (∀ k, S k → w0.heap.size ≤ k ∧ k < w.heap.size) ∧
    ∀ {w' : World} {l' : List Ast} {S' : Nat → Prop}, Sep w' l' S' → Mod S w w' → (∀ k, S' k → S k ∨ w.heap.size ≤ k) → Holds w0 w' (l' ++ r) := by
  obtain ⟨S1, S2, h1, h2, h3, h4, h5⟩ := Sep.append.1 h.sep
  refine ⟨S1, h1, h4, fun {w' l' S'} hl' hm hS => .of_sep (S := fun k => w0.heap.size ≤ k) (h.below.trans (hm.below h.size fun i hi hi' => by have := (h4 i hi').1; omega)) (Sep.append.2 ⟨S', _, hl', h2.lt.mod hm fun k hk hk' => h3 k hk' hk.1, fun k hk hk' => ?_, fun k hk => ?_, fun k hk => (h5 k hk.1).1⟩) fun _ h => h⟩
  · rcases hS k hk with h | h
    · exact h3 k h hk'.1
    · have := hk'.2; omega
  · rcases hS k hk with h' | h'
    · exact (h4 k h').1
    · exact Nat.le_trans h.size h'
/-- The same for one thing. -/
theorem Holds.step1 {w0 w : World} {P : Ast} {r : List Ast} (h : Holds w0 w (P :: r)) : ∃ S, P.holds w S ∧ (∀ k, S k → w0.heap.size ≤ k ∧ k < w.heap.size) ∧
    ∀ {w' : World} {Q : Ast} {S' : Nat → Prop}, Q.holds w' S' → Mod S w w' → (∀ k, S' k → S k ∨ w.heap.size ≤ k) → Holds w0 w' (Q :: r) := by
  obtain ⟨S, ⟨S1, _, h1, _, _, h4, _⟩, hS, hs⟩ := Holds.step (l := [P]) h
  refine ⟨S1, h1, fun k hk => hS k (h4 k hk), fun {w' Q S'} hq hm hn => ?_⟩
  exact hs (w' := w') (l' := [Q]) (S' := S') ⟨S', fun _ => False, hq, trivial, fun _ _ h => h, fun _ h => h, fun _ h => h.elim⟩ (hm.mono fun i _ h => h4 i h) fun k hk => (hn k hk).imp_left (h4 k)
/-- A new thing. -/
theorem Holds.cons {w0 w w' : World} {P : Ast} {r : List Ast} {S : Nat → Prop} (h : Holds w0 w r) (hm : Mod (fun _ => False) w w') (hp : P.holds w' S) (hS : ∀ k, S k → w.heap.size ≤ k) : Holds w0 w' (P :: r) :=
  h.new (l := [P]) hm ⟨S, fun _ => False, hp, trivial, fun _ _ h => h, fun _ h => h, fun _ h => h.elim⟩ hS
theorem Holds.tail {w0 w : World} {P : Ast} {r : List Ast} (h : Holds w0 w (P :: r)) : Holds w0 w r := Holds.drop (l := [P]) h
theorem Holds.head {w0 w : World} {P : Ast} {r : List Ast} (h : Holds w0 w (P :: r)) : ∃ S, P.holds w S ∧ ∀ k, S k → w0.heap.size ≤ k ∧ k < w.heap.size := by
  obtain ⟨S, h1, h2, _⟩ := h.step1
  exact ⟨S, h1, h2⟩
theorem Holds.swap {w0 w : World} {P Q : Ast} {r : List Ast} (h : Holds w0 w (P :: Q :: r)) : Holds w0 w (Q :: P :: r) := h.perm (List.Perm.swap _ _ _)
/-- One of them to the front. -/
theorem Holds.front {w0 w : World} {l r : List Ast} {P : Ast} (h : Holds w0 w (l ++ P :: r)) : Holds w0 w (P :: (l ++ r)) := h.perm List.perm_middle
theorem Holds.back {w0 w : World} {l r : List Ast} {P : Ast} (h : Holds w0 w (P :: (l ++ r))) : Holds w0 w (l ++ P :: r) := h.perm List.perm_middle.symm

section
variable {w0 w : World} {R : List Ast} {P Q T U V : Ast}
theorem Holds.get3 (h : Holds w0 w (P :: Q :: T :: R)) : Holds w0 w (T :: P :: Q :: R) := Holds.front (l := [P, Q]) h
theorem Holds.put3 (h : Holds w0 w (T :: P :: Q :: R)) : Holds w0 w (P :: Q :: T :: R) := Holds.back (l := [P, Q]) h
theorem Holds.get4 (h : Holds w0 w (P :: Q :: U :: T :: R)) : Holds w0 w (T :: P :: Q :: U :: R) := Holds.front (l := [P, Q, U]) h
theorem Holds.put4 (h : Holds w0 w (T :: P :: Q :: U :: R)) : Holds w0 w (P :: Q :: U :: T :: R) := Holds.back (l := [P, Q, U]) h
theorem Holds.get5 (h : Holds w0 w (P :: Q :: U :: V :: T :: R)) : Holds w0 w (T :: P :: Q :: U :: V :: R) := Holds.front (l := [P, Q, U, V]) h
theorem Holds.put5 (h : Holds w0 w (T :: P :: Q :: U :: V :: R)) : Holds w0 w (P :: Q :: U :: V :: T :: R) := Holds.back (l := [P, Q, U, V]) h
end
/-- The world under a name, at a piece of code. -/
theorem wp_at {P : Program} {c : Code} {Q : Exit → Act → World → Prop} {a : Act} {w : World} (h : ∀ W, W = w → c.wp P Q a W) : c.wp P Q a w := h w rfl

/-- A block that is known whole. -/
def aBlk (b : Nat) (c : List Value) (e : TypeId) : Ast where
  holds w S := Blk w b c e ∧ ∀ k, S k ↔ k = b
  lt h k hk := by obtain ⟨h1, h2⟩ := h; rw [h2] at hk; subst hk; exact h1.lt
  mod h hm hn := ⟨h.1.mod hm (hn _ ((h.2 _).2 rfl)), h.2⟩
/-- A slice that may be written. -/
def aOwn (e size : Nat) (A : Option Addr) (n cap : Nat) (xs : List Value) : Ast where
  holds w S := Own w e size A n cap xs ∧ ∀ k, S k ↔ InB A k
  lt h k hk := h.1.lt k ((h.2 k).1 hk)
  mod h hm hn := ⟨h.1.mod hm fun k hk => hn k ((h.2 k).2 hk), h.2⟩
theorem Holds.blk {w0 w : World} {b : Nat} {c : List Value} {e : TypeId} {r : List Ast} (h : Holds w0 w (aBlk b c e :: r)) : Blk w b c e ∧ w0.heap.size ≤ b := by
  obtain ⟨S, ⟨h1, h2⟩, h3⟩ := h.head
  exact ⟨h1, (h3 b ((h2 b).2 rfl)).1⟩
theorem Holds.own {w0 w : World} {e size n cap : Nat} {A : Option Addr} {xs : List Value} {r : List Ast} (h : Holds w0 w (aOwn e size A n cap xs :: r)) : Own w e size A n cap xs ∧ ∀ k, InB A k → w0.heap.size ≤ k := by
  obtain ⟨S, ⟨h1, h2⟩, h3⟩ := h.head
  exact ⟨h1, fun k hk => (h3 k ((h2 k).2 hk)).1⟩
/-- One store into a block. -/
theorem Holds.store {w0 w : World} {b : Nat} {c : List Value} {e : TypeId} {r : List Ast} (h : Holds w0 w (aBlk b c e :: r)) (i : Nat) (v : Value) : Holds w0 (w.setCell ⟨b, i, none⟩ v) (aBlk b (c.set i v) e :: r) := by
  obtain ⟨S, ⟨h1, h2⟩, h3, h4⟩ := h.step1
  exact h4 (Q := aBlk b (c.set i v) e) (S' := S) ⟨h1.store i v, h2⟩ ((Mod.set w b i v).mono fun k _ e => (h2 k).2 e) fun k hk => .inl hk
/-- A new block. -/
theorem Holds.alloc_blk {w0 w : World} {r : List Ast} (h : Holds w0 w r) (c : List Value) (e : TypeId) : Holds w0 (w.alloc (.cells c.toArray e)) (aBlk w.heap.size c e :: r) :=
  h.cons ((Mod.refl _ w).alloc _) (P := aBlk w.heap.size c e) (S := fun k => k = w.heap.size) ⟨Blk.new w c e, fun _ => Iff.rfl⟩ fun k hk => Nat.le_of_eq hk.symm
/-- Append, to a slice that may be written. -/
theorem Holds.append {w0 w w' : World} {e size n n' cap cap' : Nat} {A A' : Option Addr} {xs xs' : List Value} {r : List Ast} (h : Holds w0 w (aOwn e size A n cap xs :: r)) (ho : Own w' e size A' n' cap' xs') (hm : Mod (InB A) w w') (hin : ∀ k, InB A' k → InB A k ∨ w.heap.size ≤ k) :
    Holds w0 w' (aOwn e size A' n' cap' xs' :: r) := by
  obtain ⟨S, ⟨h1, h2⟩, h3, h4⟩ := h.step1
  exact h4 (Q := aOwn e size A' n' cap' xs') (S' := InB A') ⟨ho, fun _ => Iff.rfl⟩ (hm.mono fun k _ hk => (h2 k).2 hk) fun k hk => (hin k hk).imp_left fun h => (h2 k).2 h
/-- What can be read lies in a block that is there. -/
theorem Rd.blk_lt {w : World} {size n cap : Nat} {A : Option Addr} {xs : List Value} (h : Rd w size A n cap xs) (hne : xs ≠ []) (j : Nat) (hj : InB A j) : j < w.heap.size := by
  have hp : 0 < xs.length := List.length_pos_iff.2 hne
  obtain ⟨g, off, rfl, hg, _⟩ := h.cells hp
  simp at hj
  subst hj
  exact hg
theorem Rd.bblk_lt {w : World} {n cap : Nat} {A : Option Addr} {l : List UInt8} (h : RdB w A n cap l) (hne : l ≠ []) (j : Nat) (hj : InB A j) : j < w.heap.size :=
  Rd.blk_lt h (fun e => hne (List.eq_nil_of_length_eq_zero (by simpa using congrArg List.length e))) j hj

/-! ### Blocks of unlike types -/
theorem Own.blk_of {w : World} {e size n cap : Nat} {A : Option Addr} {xs : List Value} (h : Own w e size A n cap xs) (j : Nat) (hj : InB A j) : ∃ c, Blk w j c e := by
  obtain ⟨_, _, _, ⟨rfl, _⟩ | ⟨g, off, cur, rfl, hb, _⟩⟩ := h
  · simp at hj
  · simp at hj
    subst hj
    exact ⟨_, hb⟩
theorem Own.not_blk {w : World} {e e' size n cap b : Nat} {A : Option Addr} {xs c : List Value} (h : Own w e size A n cap xs) (hb : Blk w b c e') (hne : e ≠ e') : ¬ InB A b := fun hj => by
  obtain ⟨c', hc⟩ := h.blk_of b hj
  exact hc.ne hb hne rfl
end Go.Mem
