/-
  A small vocabulary of memory for walks over any program: blocks that are known whole ('Blk'), what a step may have turned ('Mod'), slices that may be written ('Own') or only read ('Rd'), append and cuts on them.
-/
import Derived.WalkKit
import Derived.WalkSpells
import Derived.WalkLawsBesides
import Derived.Deep.AppendSrc
import Derived.Deep.Upon
import Derived.Deep.LoopGhost
import Derived.Lib.Hide
namespace Go.Mem
open Go.RowKit
set_option linter.unusedVariables false

/-! ### What a step may have turned -/
/-- Of the blocks that were there only those in S may have turned. -/
structure Mod (S : Nat → Prop) (w w' : World) : Prop where
  os : w'.os = w.os
  tape : w'.tape = w.tape
  output : w'.output = w.output
  size : w.heap.size ≤ w'.heap.size
  block : ∀ i, i < w.heap.size → ¬ S i → w'.heap[i]? = w.heap[i]?

theorem Mod.refl (S : Nat → Prop) (w : World) : Mod S w w := ⟨rfl, rfl, rfl, Nat.le_refl _, fun _ _ _ => rfl⟩
theorem Mod.mono {S S' : Nat → Prop} {w w' : World} (h : Mod S w w') (hs : ∀ i, i < w.heap.size → S i → S' i) : Mod S' w w' :=
  ⟨h.os, h.tape, h.output, h.size, fun i hi hn => h.block i hi fun hx => hn (hs i hi hx)⟩
/-- Two steps; the second one may besides turn what is new. -/
theorem Mod.trans' {S S' : Nat → Prop} {a b c : World} (h : Mod S a b) (k : Mod S' b c) (hs : ∀ i, i < a.heap.size → S' i → S i) : Mod S a c :=
  ⟨k.os.trans h.os, k.tape.trans h.tape, k.output.trans h.output, Nat.le_trans h.size k.size, fun i hi hn =>
    (k.block i (Nat.lt_of_lt_of_le hi h.size) fun hx => hn (hs i hi hx)).trans (h.block i hi hn)⟩
theorem Mod.trans {S : Nat → Prop} {a b c : World} (h : Mod S a b) (k : Mod S b c) : Mod S a c := h.trans' k fun _ _ h => h
theorem Mod.alloc {S : Nat → Prop} {a w : World} (h : Mod S a w) (o : Obj) : Mod S a (w.alloc o) :=
  h.trans' (S' := fun _ => False) ⟨rfl, rfl, rfl, by simp, fun k hk _ => Below.heap_alloc _ _ _ hk⟩ fun _ _ h => h.elim
theorem Mod.drew {S : Nat → Prop} {a w : World} (h : Mod S a w) : Mod S a w.drew := ⟨h.os, h.tape, h.output, h.size, h.block⟩
theorem Mod.drewN {S : Nat → Prop} {a w : World} (h : Mod S a w) (n : Nat) : Mod S a (w.drewN n) := ⟨h.os, h.tape, h.output, h.size, h.block⟩
theorem Mod.setCell {S : Nat → Prop} {a w : World} (h : Mod S a w) {p : Addr} (hp : p.block < a.heap.size → S p.block) (u : Value) : Mod S a (w.setCell p u) :=
  h.trans' (S' := fun k => k = p.block) ⟨rfl, rfl, rfl, by simp, fun k hk hne => Below.heap_setCell _ _ _ _ hne⟩ fun i hi e => by subst e; exact hp hi
theorem Mod.setCells {S : Nat → Prop} {a w : World} (h : Mod S a w) {g : Nat} (hg : g < a.heap.size → S g) (o : Nat) (vs : List Value) : Mod S a (w.setCells g o vs) := by
  induction vs generalizing w o with
  | nil => exact h
  | cons v vs ih => exact ih (h.setCell (p := ⟨g, o, none⟩) hg v) _
/-- One store. -/
theorem Mod.set (w : World) (p i : Nat) (v : Value) : Mod (fun k => k = p) w (w.setCell ⟨p, i, none⟩ v) := (Mod.refl (fun k => k = p) w).setCell (p := ⟨p, i, none⟩) (fun _ => rfl) v
theorem Mod.below {S : Nat → Prop} {w w' : World} (h : Mod S w w') {B : Nat} (hB : B ≤ w.heap.size) (hs : ∀ i, i < B → ¬ S i) : Below B w w' :=
  ⟨h.os, h.tape, h.output, h.size, fun k hk => h.block k (by omega) (hs k hk)⟩
theorem Mod.of_below {w w' : World} (h : Below w.heap.size w w') (S : Nat → Prop) : Mod S w w' := ⟨h.os, h.tape, h.output, h.size, fun i hi _ => h.block i hi⟩
theorem Mod.of_belowB {B : Nat} {w w' : World} (h : Below B w w') : Mod (fun i => B ≤ i) w w' := ⟨h.os, h.tape, h.output, h.size, fun i _ hn => h.block i (by omega)⟩
theorem Mod.cell {S : Nat → Prop} {w w' : World} (h : Mod S w w') {p : Addr} {v : Value} (hc : w.cell? p = some v) (hn : ¬ S p.block) : w'.cell? p = some v :=
  (World.cell?_of_block (h.block p.block (World.block_lt_of_cell? _ _ hc) hn)).trans hc
theorem Mod.of_grown {w w' : World} {row : Option Nat} (h : w.grownBy w' row) : Mod (fun i => some i = row) w w' := ⟨h.os, h.tape, h.output, h.size, h.block⟩

/-! ### A block that is known whole -/
/-- The block's cells are known, and each may be written (a mark of the run-time's behind its end is let by). -/
def Blk (w : World) (b : Nat) (c : List Value) (e : TypeId) : Prop := ∃ fr : Nat × Nat, w.heap[b]? = some (.cells c.toArray e fr) ∧ ∀ o, o < c.length → ¬ (fr.1 ≤ o ∧ o < fr.2)
section
variable {w : World} {b : Nat} {c : List Value} {e : TypeId}
theorem Blk.of {w : World} {b : Nat} {c : List Value} {e : TypeId} (h : w.heap[b]? = some (.cells c.toArray e)) : Blk w b c e := ⟨(0, 0), h, fun o _ h => by omega⟩
theorem Blk.lt (h : Blk w b c e) : b < w.heap.size := by
  obtain ⟨fr, h, _⟩ := h
  exact (Array.getElem?_eq_some_iff.1 h).1
theorem Blk.cell (h : Blk w b c e) (o : Nat) : w.cell? ⟨b, o, none⟩ = c[o]? := by
  obtain ⟨fr, h, _⟩ := h
  rw [cell_of_row w b o c.toArray e fr h]
  simp
theorem Blk.frozen (h : Blk w b c e) (o : Nat) (ho : o < c.length) : w.frozen? ⟨b, o, none⟩ = false := by
  obtain ⟨fr, h, hf⟩ := h
  have := hf o ho
  simp only [World.frozen?, h]
  rw [Bool.eq_false_iff]
  intro hh
  simp at hh
  exact this hh
theorem Blk.new (w : World) (c : List Value) (e : TypeId) : Blk (w.alloc (.cells c.toArray e)) w.heap.size c e := Blk.of (by
  show (w.heap.push _)[w.heap.size]? = _
  simp)
/-- A new block with the run-time's mark behind its end ('[]byte("..")'). -/
theorem Blk.marked (w : World) (c : List Value) (e : TypeId) (k : Nat) : Blk (w.alloc (.cells c.toArray e (c.length, k))) w.heap.size c e := ⟨(c.length, k), by
  show (w.heap.push _)[w.heap.size]? = _
  simp, fun o ho h => absurd (show c.length ≤ o from h.1) (by omega)⟩
theorem Blk.of_heap {w w' : World} {b : Nat} {c : List Value} {e : TypeId} (h : Blk w b c e) (hh : w'.heap[b]? = w.heap[b]?) : Blk w' b c e := by
  obtain ⟨fr, h, hf⟩ := h
  exact ⟨fr, hh.trans h, hf⟩
theorem Blk.alloc (h : Blk w b c e) (o : Obj) : Blk (w.alloc o) b c e := h.of_heap (Below.heap_alloc w o b h.lt)
theorem Blk.drew (h : Blk w b c e) : Blk w.drew b c e := h
theorem Blk.drewN (h : Blk w b c e) (n : Nat) : Blk (w.drewN n) b c e := h
theorem Blk.store (h : Blk w b c e) (i : Nat) (v : Value) : Blk (w.setCell ⟨b, i, none⟩ v) b (c.set i v) e := by
  obtain ⟨fr, h, hf⟩ := h
  refine ⟨fr, ?_, by simpa using hf⟩
  simp only [World.setCell, Array.getElem?_modify, if_true, h, Option.map_some]
  simp
theorem Blk.far (h : Blk w b c e) (a : Addr) (v : Value) (hne : b ≠ a.block) : Blk (w.setCell a v) b c e := h.of_heap (Below.heap_setCell w a v b hne)
theorem Blk.mod {S : Nat → Prop} {w' : World} (h : Blk w b c e) (hm : Mod S w w') (hn : ¬ S b) : Blk w' b c e := h.of_heap (hm.block b h.lt hn)
theorem Blk.eq {c' : List Value} {e' : TypeId} (h : Blk w b c e) (h' : Blk w b c' e') : c = c' ∧ e = e' := by
  obtain ⟨fr, h, _⟩ := h
  obtain ⟨fr', h', _⟩ := h'
  rw [h] at h'
  simp only [Option.some.injEq, Obj.cells.injEq] at h'
  exact ⟨List.toArray_inj h'.1, h'.2.1⟩
theorem Blk.ne {b' : Nat} {c' : List Value} {e' : TypeId} (h : Blk w b c e) (h' : Blk w b' c' e') (hne : e ≠ e') : b ≠ b' := by
  rintro rfl
  exact hne (h.eq h').2
theorem Blk.stores (h : Blk w b c e) (o : Nat) (vs : List Value) (hl : o + vs.length ≤ c.length) : Blk (w.setCells b o vs) b (c.take o ++ vs ++ c.drop (o + vs.length)) e := by
  induction vs generalizing w c o with
  | nil => simpa [World.setCells] using h
  | cons v vs ih =>
    have hl' : o + (vs.length + 1) ≤ c.length := by simpa using hl
    have := ih (h.store o v) (o + 1) (by simp; omega)
    simp only [World.setCells]
    have e1 : (c.set o v).take (o + 1) = c.take o ++ [v] := by
      rw [List.take_add_one, List.take_set_of_le (Nat.le_refl _)]
      simp [show o < c.length by omega]
    have e2 : (c.set o v).drop (o + 1 + vs.length) = c.drop (o + 1 + vs.length) := List.drop_set_of_lt (by omega)
    rw [e1, e2] at this
    simpa [Nat.add_assoc, Nat.add_comm, Nat.add_left_comm] using this
end

/-! ### Addresses -/
/-- A slice's array lies in this block. -/
def InB (A : Option Addr) (k : Nat) : Prop := ∃ a, A = some a ∧ a.block = k
@[simp] theorem inB_none (k : Nat) : ¬ InB none k := fun ⟨_, h, _⟩ => by cases h
@[simp] theorem inB_some (a : Addr) (k : Nat) : InB (some a) k ↔ a.block = k := ⟨fun ⟨_, h, e⟩ => by cases h; exact e, fun h => ⟨a, rfl, h⟩⟩

/-! ### A slice that may be written -/
/-- The slice (A, n, cap) has the cells xs (n elements of so many cells each), in a block that may be written; all that is behind its length, up to the capacity, is there too. -/
def Own (w : World) (e : TypeId) (size : Nat) (A : Option Addr) (n cap : Nat) (xs : List Value) : Prop :=
  xs.length = n * size ∧ n ≤ cap ∧ cap ≤ maxLen ∧ ((A = none ∧ cap = 0) ∨ ∃ g off cur, A = some ⟨g, off, none⟩ ∧ Blk w g cur e ∧ off + cap * size ≤ cur.length ∧ (cur.drop off).take (n * size) = xs)
/-- The slice (A, n, cap) has the cells xs. -/
def Rd (w : World) (size : Nat) (A : Option Addr) (n cap : Nat) (xs : List Value) : Prop :=
  xs.length = n * size ∧ n ≤ cap ∧ cap ≤ maxLen ∧ (A = none → cap = 0) ∧ ∀ j u, xs[j]? = some u → ∃ g off, A = some ⟨g, off, none⟩ ∧ w.cell? ⟨g, off + j, none⟩ = some u
section
variable {w : World} {e : TypeId} {size : Nat} {A : Option Addr} {n cap : Nat} {xs : List Value}
theorem Own.len (h : Own w e size A n cap xs) : xs.length = n * size := h.1
theorem Own.le (h : Own w e size A n cap xs) : n ≤ cap := h.2.1
theorem Own.max (h : Own w e size A n cap xs) : cap ≤ maxLen := h.2.2.1
theorem Own.nil (w : World) (e : TypeId) (size : Nat) : Own w e size none 0 0 [] := ⟨by simp, Nat.le_refl _, by simp [maxLen], .inl ⟨rfl, rfl⟩⟩
theorem Own.none_eq {cap : Nat} (h : Own w e size none n cap xs) : n = 0 ∧ cap = 0 ∧ xs = [] := by
  obtain ⟨h1, h2, _, ⟨_, h⟩ | ⟨_, _, _, h, _⟩⟩ := h
  · subst h
    obtain rfl : n = 0 := by omega
    exact ⟨rfl, rfl, List.eq_nil_of_length_eq_zero (by simpa using h1)⟩
  · cases h
theorem Own.lt (h : Own w e size A n cap xs) (k : Nat) (hk : InB A k) : k < w.heap.size := by
  obtain ⟨_, _, _, ⟨rfl, _⟩ | ⟨g, off, cur, rfl, hb, _⟩⟩ := h
  · simp at hk
  · simp at hk
    subst hk
    exact hb.lt
theorem Own.mod {S : Nat → Prop} {w' : World} (h : Own w e size A n cap xs) (hm : Mod S w w') (hn : ∀ k, InB A k → ¬ S k) : Own w' e size A n cap xs := by
  obtain ⟨h1, h2, h3, h | ⟨g, off, cur, rfl, hb, h4, h5⟩⟩ := h
  · exact ⟨h1, h2, h3, .inl h⟩
  · exact ⟨h1, h2, h3, .inr ⟨g, off, cur, rfl, hb.mod hm (hn g (by simp)), h4, h5⟩⟩
theorem Own.alloc (h : Own w e size A n cap xs) (o : Obj) : Own (w.alloc o) e size A n cap xs := h.mod ((Mod.refl (fun _ => False) w).alloc o) fun _ _ => id
theorem Own.drew (h : Own w e size A n cap xs) : Own w.drew e size A n cap xs := h
theorem Own.drewN (h : Own w e size A n cap xs) (k : Nat) : Own (w.drewN k) e size A n cap xs := h
theorem Own.setCell (h : Own w e size A n cap xs) (a : Addr) (v : Value) (hn : ¬ InB A a.block) : Own (w.setCell a v) e size A n cap xs :=
  h.mod ((Mod.refl (fun k => k = a.block) w).setCell (fun _ => rfl) v) fun k hk e => hn (e ▸ hk)
theorem Own.rd (h : Own w e size A n cap xs) : Rd w size A n cap xs := by
  obtain ⟨h1, h2, h3, ⟨rfl, rfl⟩ | ⟨g, off, cur, rfl, hb, h4, h5⟩⟩ := h
  · obtain rfl : n = 0 := by omega
    have : xs = [] := List.eq_nil_of_length_eq_zero (by simpa using h1)
    subst this
    exact ⟨h1, h2, h3, fun _ => rfl, fun j u hu => by simp at hu⟩
  · refine ⟨h1, h2, h3, fun h => (by cases h), fun j u hu => ⟨g, off, rfl, ?_⟩⟩
    rw [hb.cell]
    have hj : j < xs.length := (List.getElem?_eq_some_iff.1 hu).1
    rw [← h5, List.getElem?_take, if_pos (by omega), List.getElem?_drop] at hu
    exact hu
theorem Own.at_ (h : Own w e size A n cap xs) (hn : 0 < cap) : ∃ g off cur, A = some ⟨g, off, none⟩ ∧ Blk w g cur e ∧ off + cap * size ≤ cur.length ∧ (cur.drop off).take (n * size) = xs := by
  obtain ⟨h1, h2, h3, ⟨_, h0⟩ | h⟩ := h
  · omega
  · exact h
theorem Rd.len (h : Rd w size A n cap xs) : xs.length = n * size := h.1
theorem Rd.le (h : Rd w size A n cap xs) : n ≤ cap := h.2.1
theorem Rd.max (h : Rd w size A n cap xs) : cap ≤ maxLen := h.2.2.1
theorem Rd.nil (w : World) (size : Nat) : Rd w size none 0 0 [] := (Own.nil w 0 size).rd
theorem Rd.mod {S : Nat → Prop} {w' : World} (h : Rd w size A n cap xs) (hm : Mod S w w') (hn : ∀ k, InB A k → ¬ S k) : Rd w' size A n cap xs := by
  obtain ⟨h1, h2, h3, h4, h5⟩ := h
  refine ⟨h1, h2, h3, h4, fun j u hu => ?_⟩
  obtain ⟨g, off, rfl, hc⟩ := h5 j u hu
  exact ⟨g, off, rfl, hm.cell hc (hn g (by simp))⟩
theorem Rd.mod' {S : Nat → Prop} {w' : World} (h : Rd w size A n cap xs) (hm : Mod S w w') (hn : xs ≠ [] → ∀ k, InB A k → ¬ S k) : Rd w' size A n cap xs := by
  cases xs with
  | nil => exact ⟨h.1, h.2.1, h.2.2.1, h.2.2.2.1, fun j u hu => by simp at hu⟩
  | cons x xs => exact h.mod hm (hn (by simp))
theorem Rd.below {w' : World} (h : Rd w size A n cap xs) (hm : Below w.heap.size w w') : Rd w' size A n cap xs := h.mod (Mod.of_below hm fun _ => False) fun _ _ => id
/-- An element's cell. -/
theorem Rd.at_ (h : Rd w size A n cap xs) (j : Nat) (hj : j < xs.length) : ∃ g off, A = some ⟨g, off, none⟩ ∧ w.cell? ⟨g, off + j, none⟩ = some xs[j] := h.2.2.2.2 j _ (List.getElem?_eq_getElem hj)
/-- All cells, where there are some. -/
theorem Rd.cells (h : Rd w size A n cap xs) (hp : 0 < xs.length) : ∃ g off, A = some ⟨g, off, none⟩ ∧ g < w.heap.size ∧ ∀ j (hj : j < xs.length), w.cell? ⟨g, off + j, none⟩ = some xs[j] := by
  obtain ⟨g, off, rfl, hc⟩ := h.at_ 0 hp
  refine ⟨g, off, rfl, World.block_lt_of_cell? _ _ hc, fun j hj => ?_⟩
  obtain ⟨g', off', e, hc'⟩ := h.at_ j hj
  cases e
  exact hc'
end

/-! ### Cuts -/
/-- The address of a cut slice. -/
def cutA (A : Option Addr) (cap l size : Nat) : Option Addr := if cap = l then A else A.map (·.add (l * size))
theorem cutA_in {A : Option Addr} {cap l size k : Nat} (h : InB (cutA A cap l size) k) : InB A k := by
  unfold cutA at h
  split at h
  · exact h
  · cases A with
    | none => simp at h
    | some a =>
      simp only [Option.map_some, inB_some] at h ⊢
      rw [← h]
      unfold Addr.add
      split <;> rfl
@[simp] theorem cutA_zero (A : Option Addr) (cap size : Nat) : cutA A cap 0 size = A := by
  unfold cutA
  split
  · rfl
  · cases A <;> simp [Addr.add]
theorem Own.cut {w : World} {e : TypeId} {size : Nat} {A : Option Addr} {n cap : Nat} {xs : List Value} (h : Own w e size A n cap xs) (l r : Nat) (h1 : l ≤ r) (h2 : r ≤ n) :
    Own w e size (cutA A cap l size) (r - l) (cap - l) ((xs.drop (l * size)).take ((r - l) * size)) := by
  have hle := h.le
  obtain ⟨hl, hle, hm, hc⟩ := h
  refine ⟨?_, by omega, by omega, ?_⟩
  · rw [List.length_take, List.length_drop, hl, ← Nat.sub_mul]
    exact Nat.min_eq_left (Nat.mul_le_mul_right _ (by omega))
  · rcases hc with ⟨rfl, rfl⟩ | ⟨g, off, cur, rfl, hb, h4, h5⟩
    · left
      refine ⟨?_, by omega⟩
      unfold cutA
      split <;> simp
    · right
      have hsp : (xs.drop (l * size)).take ((r - l) * size) = ((cur.drop (off + l * size)).take ((r - l) * size)) := by
        rw [← h5, List.drop_take, List.drop_drop, List.take_take, ← Nat.sub_mul]
        congr 1
        exact Nat.min_eq_left (Nat.mul_le_mul_right _ (by omega))
      by_cases hcl : cap = l
      · subst hcl
        refine ⟨g, off, cur, by simp [cutA], hb, by simp; omega, ?_⟩
        obtain rfl : r = cap := by omega
        simp
      · refine ⟨g, off + l * size, cur, by simp [cutA, hcl, Addr.add_lit], hb, ?_, hsp.symm⟩
        have : cap * size = l * size + (cap - l) * size := by rw [← Nat.add_mul]; congr 1; omega
        omega
theorem Rd.cut {w : World} {size : Nat} {A : Option Addr} {n cap : Nat} {xs : List Value} (h : Rd w size A n cap xs) (l r : Nat) (h1 : l ≤ r) (h2 : r ≤ n) :
    Rd w size (cutA A cap l size) (r - l) (cap - l) ((xs.drop (l * size)).take ((r - l) * size)) := by
  obtain ⟨hl, hle, hm, h0, hc⟩ := h
  have hlen : ((xs.drop (l * size)).take ((r - l) * size)).length = (r - l) * size := by
    rw [List.length_take, List.length_drop, hl, ← Nat.sub_mul]
    exact Nat.min_eq_left (Nat.mul_le_mul_right _ (by omega))
  refine ⟨hlen, by omega, by omega, ?_, ?_⟩
  · intro he
    unfold cutA at he
    split at he
    · omega
    · have : A = none := by simpa using he
      have := h0 this
      omega
  · intro j u hu
    have hj : j < (r - l) * size := by
      have := (List.getElem?_eq_some_iff.1 hu).1
      omega
    rw [List.getElem?_take, if_pos hj, List.getElem?_drop] at hu
    obtain ⟨g, off, rfl, hcc⟩ := hc _ _ hu
    by_cases hcl : cap = l
    · exfalso
      have : r - l = 0 := by omega
      rw [this] at hj
      omega
    · exact ⟨g, off + l * size, by simp [cutA, hcl, Addr.add_lit], by rw [Nat.add_assoc]; exact hcc⟩

/-! ### Types of elements -/
/-- t is a slice of e; an element has so many cells, so many bytes. -/
structure Elt (P : Program) (t e : TypeId) (size bytes : Nat) : Prop where
  under : P.underlying t = some (.slice e)
  elem : P.elem t = e
  info : ∃ i z, P.info? e = some i ∧ i.zero = some z ∧ i.size = size ∧ i.bytes = bytes ∧ z.cells.size = size
  pos : 0 < size

theorem elt_of {P : Program} {t e size bytes : Nat} (z : Value) (h1 : P.underlying t = some (.slice e)) (h2 : P.elem t = e) (h3 : (P.info? e).map (fun i => (i.zero, i.size, i.bytes)) = some (some z, size, bytes))
    (h4 : z.cells.size = size) (h5 : 0 < size) : Elt P t e size bytes := by
  refine ⟨h1, h2, ?_, h5⟩
  cases hi : P.info? e with
  | none => rw [hi] at h3; cases h3
  | some i =>
    rw [hi] at h3
    simp only [Option.map_some, Option.some.injEq, Prod.mk.injEq] at h3
    exact ⟨i, z, rfl, h3.1, h3.2.1, h3.2.2, h4⟩
theorem Elt.sizeOf {P : Program} {t e size bytes : Nat} (h : Elt P t e size bytes) (w : World) : (Go.sizeOf (P.elem t)).run P w = .ok size w := by
  obtain ⟨i, z, hi, _, hs, _⟩ := h.info
  rw [h.elem]
  simp [Go.sizeOf, typeInfo, hi, hs]

/-! ### append -/
theorem run_append {P : Program} (w : World) {t e size bytes : Nat} (ht : Elt P t e size bytes) (tx ty : TypeId) {A : Option Addr} {n cap : Nat} {xs : List Value} (ho : Own w e size A n cap xs)
    {x : Value} {m : Nat} {news : List Value} (hs : Src P size tx x m news w) (h63 : n + m ≤ maxLen) (hby : (n + m) * bytes ≤ 140737488355328) :
    ∃ A' cap' w', (Builtin.append_ #[t, tx] ty #[.slice A n cap, x]).run P w = .ok (.slice A' (n + m) cap') w' ∧ Own w' e size A' (n + m) cap' (xs ++ news) ∧ Mod (InB A) w w' ∧
      (∀ k, InB A' k → InB A k ∨ w.heap.size ≤ k) ∧ (A' = none ↔ A = none ∧ m = 0) := by
  obtain ⟨i, z, hi, hz, rfl, rfl, hzs⟩ := ht.info
  have hmax := ho.max
  by_cases hr : n + m ≤ cap
  · -- there is room
    have hnl := hs.newsLen
    obtain ⟨hl, hle, hm, ⟨rfl, rfl⟩ | ⟨g, off, cur, rfl, hb, h4, h5⟩⟩ := ho
    · obtain rfl : n = 0 := by omega
      obtain rfl : m = 0 := by omega
      have hx0 : xs = [] := List.eq_nil_of_length_eq_zero (by simpa using hl)
      have hn0 : news = [] := List.eq_nil_of_length_eq_zero (by simpa using hnl)
      subst hx0 hn0
      refine ⟨none, 0, w, run_append_nothing w t tx ty e i ht.under hi none 0 0 (Nat.le_refl _) x hs, by simpa using Own.nil w e i.size, Mod.refl _ _, fun k hk => .inl hk, by simp⟩
    · have hcap : off + (n + m) * i.size ≤ cur.length := Nat.le_trans (Nat.add_le_add_left (Nat.mul_le_mul_right _ hr) _) h4
      rw [Nat.add_mul] at hcap
      refine ⟨some ⟨g, off, none⟩, cap, w.setCells g (off + n * i.size) news, ?_, ⟨?_, hr, hm, .inr ⟨g, off, _, rfl, hb.stores _ _ (by rw [hnl]; omega), ?_, ?_⟩⟩, (Mod.refl _ w).setCells (fun _ => by simp) _ _, fun k hk => .inl hk, by simp⟩
      · exact run_append_room_src w t tx ty e i ht.under hi g off n cap x m news hs hr
          (fun j hj => by rw [hb.cell, List.getElem?_eq_getElem (by omega)]; rfl) (fun j hj => hb.frozen _ (by omega))
      · rw [List.length_append, hl, hnl, Nat.add_mul]
      · simp only [List.length_append, List.length_take, List.length_drop]
        omega
      · have e1 : (cur.take (off + n * i.size) ++ news ++ cur.drop (off + n * i.size + news.length)).drop off = (cur.drop off).take (n * i.size) ++ news ++ cur.drop (off + n * i.size + news.length) := by
          rw [List.append_assoc, List.drop_append_of_le_length (by rw [List.length_take]; omega), ← List.append_assoc]
          congr 2
          rw [List.drop_take]
          congr 1
          omega
        rw [e1, h5, Nat.add_mul]
        apply List.take_left'
        rw [List.length_append, hl, hnl]
  · have hcn : A = none → cap = 0 := fun h => by subst h; exact ho.none_eq.2.1
    have holds : (Builtin.firstCells i.size n (.slice A n cap)).run P w.drew = .ok xs.toArray w.drew := by
      cases A with
      | none =>
        obtain ⟨rfl, rfl, rfl⟩ := ho.none_eq
        exact run_firstCells_none w.drew i.size 0 0 0
      | some a =>
        refine run_firstCells_some w.drew i.size n a n cap xs ho.len fun j u hu => ?_
        obtain ⟨g, off, ha, hc⟩ := ho.rd.2.2.2.2 j u hu
        cases ha
        rw [Addr.add_lit]
        exact hc
    have hge := grownCap_ge w (n + m) cap e
    have hcm : grownCap w (n + m) cap e ≤ maxLen := grownCap_le_maxLen w (n + m) cap e h63
    have hrun := run_append_grow_src w t tx ty e i z ht.under hi hz A n cap xs holds x m news hs (by omega) (by simp only [maxLen] at h63; omega) (growslice_fits (by omega) hby)
    have hlen : (xs ++ news).length = (n + m) * i.size := by rw [List.length_append, ho.len, hs.newsLen, Nat.add_mul]
    refine ⟨_, _, _, hrun, ⟨hlen, hge, hcm, .inr ⟨w.heap.size, 0, ((xs ++ news).toArray ++ Builtin.zeroCells z.cells (grownCap w (n + m) cap e - (n + m))).toList, rfl, ?_, ?_, ?_⟩⟩, ((Mod.refl _ w).drew.alloc _), fun k hk => ?_, ?_⟩
    · refine Blk.of ?_
      rw [Array.toArray_toList]
      exact heap_alloc_new w.drew _
    · rw [Nat.zero_add, Array.length_toList, Array.size_append, size_zeroCells, hzs, List.size_toArray, hlen, ← Nat.add_mul]
      exact Nat.mul_le_mul_right _ (by omega)
    · rw [List.drop_zero, Array.toList_append]
      exact List.take_left' hlen
    · simp at hk
      omega
    · have : ¬ (A = none ∧ m = 0) := by
        rintro ⟨h, rfl⟩
        subst h
        obtain ⟨rfl, rfl, _⟩ := ho.none_eq
        omega
      simp [this]

/-- At the operation, for the walk: '(at_builtin; refine wpList_append _ rfl s x T TX rfl elt _ _ _ xs rfl hown xv m news rfl hsrc h63 hby ?_; intro A' cap' w' hown' hmod hin hnone)'. -/
theorem wpList_append {P : Program} (w : World) {ops : Array Oper} {rest : List Oper} {o : Oper} {a : Act} {Q : Exit → Act → World → Prop}
    (hg : o.guard = none) (s x : Operand) (t tx : TypeId) (hop : o.op = Op.call { callee := Callee.builtin Builtin.append, args := #[s, x], argTypes := #[t, tx] })
    {e size bytes : Nat} (ht : Elt P t e size bytes) (A : Option Addr) (n cap : Nat) (xs : List Value) (hs : a.eval s = .slice A n cap) (ho : Own w e size A n cap xs)
    (xv : Value) (m : Nat) (news : List Value) (hx : a.eval x = xv) (hsrc : Src P size tx xv m news w) (h63 : n + m ≤ maxLen) (hby : (n + m) * bytes ≤ 140737488355328)
    (hK : ∀ A' cap' w', Own w' e size A' (n + m) cap' (xs ++ news) → Mod (InB A) w w' → (∀ k, InB A' k → InB A k ∨ w.heap.size ≤ k) → (A' = none ↔ A = none ∧ m = 0) → wpList P ops Q rest (a.put o.dst (.slice A' (n + m) cap')) w') :
    wpList P ops Q (o :: rest) a w := by
  refine wpList_plain hg fun K hK' => ?_
  obtain ⟨A', cap', w', hrun, r1, r2, r3, r4⟩ := run_append (P := P) w ht tx o.type ho hsrc h63 hby
  unfold Oper.wp
  simp [execOp, hop, resolve, invoke, builtin, hs, hx, hrun, Result.andThen]
  exact hK' _ _ (hK A' cap' w' r1 r2 r3 r4)

/-! ### What may be appended -/
theorem Rd.src {P : Program} {w : World} {size : Nat} {A : Option Addr} {n cap : Nat} {xs : List Value} (h : Rd w size A n cap xs) {tx e' : TypeId} (hk : P.underlying tx = some (.slice e')) (h1 : ∀ u ∈ xs, u.oneCell' = true) :
    Src P size tx (.slice A n cap) n xs w := by
  cases A with
  | none =>
    have hc := h.2.2.2.1 rfl
    have hle := h.le
    subst hc
    obtain rfl : n = 0 := by omega
    have : xs = [] := List.eq_nil_of_length_eq_zero (by simpa using h.len)
    subst this
    exact Src.ofNil w hk 0
  | some a =>
    refine Src.ofSlice w hk a n cap xs h.len (fun j u hu => ?_) h1
    obtain ⟨g, off, ha, hc⟩ := h.2.2.2.2 j u hu
    cases ha
    rw [Addr.add_lit]
    exact hc

/-! ### Bytes -/
/-- Bytes as cells. -/
def bc (l : List UInt8) : List Value := l.map fun b => Value.int .u8 b.toNat
@[simp] theorem bc_length (l : List UInt8) : (bc l).length = l.length := by simp [bc]
@[simp] theorem bc_nil : bc [] = [] := rfl
theorem bc_append (l r : List UInt8) : bc (l ++ r) = bc l ++ bc r := by simp [bc]
theorem bc_take (l : List UInt8) (n : Nat) : (bc l).take n = bc (l.take n) := by simp [bc, List.map_take]
theorem bc_drop (l : List UInt8) (n : Nat) : (bc l).drop n = bc (l.drop n) := by simp [bc, List.map_drop]
theorem bc_one (l : List UInt8) : ∀ u ∈ bc l, u.oneCell' = true := by
  intro u hu
  obtain ⟨_, _, rfl⟩ := List.mem_map.1 hu
  rfl
theorem bc_get (l : List UInt8) (j : Nat) (h : j < l.length) : (bc l)[j]? = some (.int .u8 l[j].toNat) := by simp [bc, h]
theorem bc_inj {l r : List UInt8} (h : bc l = bc r) : l = r := by
  induction l generalizing r with
  | nil => cases r with
    | nil => rfl
    | cons => simp [bc] at h
  | cons a l ih =>
    cases r with
    | nil => simp [bc] at h
    | cons b r =>
      simp only [bc, List.map_cons, List.cons.injEq, Value.int.injEq, true_and] at h
      obtain ⟨h1, h2⟩ := h
      rw [ih h2]
      congr 1
      exact UInt8.toNat_inj.1 (by omega)
theorem u8_beq (c d : UInt8) : ((c.toNat : Int) == (d.toNat : Int)) = (c == d) := by
  rw [Bool.eq_iff_iff]
  simp [← UInt8.toNat_inj]
  omega
/-- A byte slice that may be written, that may be read. -/
abbrev OwnB (w : World) (e : TypeId) (A : Option Addr) (n cap : Nat) (l : List UInt8) : Prop := Own w e 1 A n cap (bc l)
abbrev RdB (w : World) (A : Option Addr) (n cap : Nat) (l : List UInt8) : Prop := Rd w 1 A n cap (bc l)
theorem Rd.blen {w : World} {A : Option Addr} {n cap : Nat} {l : List UInt8} (h : RdB w A n cap l) : l.length = n := by simpa using h.len
theorem Own.blen {w : World} {e : TypeId} {A : Option Addr} {n cap : Nat} {l : List UInt8} (h : OwnB w e A n cap l) : l.length = n := by simpa using h.len
theorem Rd.bcut {w : World} {A : Option Addr} {n cap : Nat} {l : List UInt8} (h : RdB w A n cap l) (i j : Nat) (h1 : i ≤ j) (h2 : j ≤ n) : RdB w (cutA A cap i 1) (j - i) (cap - i) ((l.drop i).take (j - i)) := by
  have := Rd.cut h i j h1 h2
  simpa [bc_drop, bc_take] using this
theorem Own.bcut {w : World} {e : TypeId} {A : Option Addr} {n cap : Nat} {l : List UInt8} (h : OwnB w e A n cap l) (i j : Nat) (h1 : i ≤ j) (h2 : j ≤ n) : OwnB w e (cutA A cap i 1) (j - i) (cap - i) ((l.drop i).take (j - i)) := by
  have := Own.cut h i j h1 h2
  simpa [bc_drop, bc_take] using this
/-- The byte in a place, as the walk reads it. -/
theorem Rd.byte {w : World} {A : Option Addr} {n cap : Nat} {l : List UInt8} (h : RdB w A n cap l) (hp : 0 < n) :
    ∃ g off, A = some ⟨g, off, none⟩ ∧ g < w.heap.size ∧ ∀ j (hj : j < l.length), w.cell? ⟨g, off + j, none⟩ = some (.int .u8 l[j].toNat) := by
  have hn := h.blen
  obtain ⟨g, off, e, hg, hc⟩ := Rd.cells h (by simpa using (by omega : 0 < l.length))
  exact ⟨g, off, e, hg, fun j hj => by simpa [bc] using hc j (by simpa using hj)⟩

/-- 'string(b)'. -/
theorem Rd.string {P : Program} {w : World} {A : Option Addr} {n cap : Nat} {l : List UInt8} (h : RdB w A n cap l) {src e dst : TypeId} (hs : P.underlying src = some (.slice e)) (he : P.underlying e = some (.int .u8)) (hd : P.underlying dst = some .string) :
    (convert src dst (.slice A n cap)).run P w = .ok (.string ⟨l.toArray⟩) w := by
  have hn := h.blen
  cases A with
  | none =>
    have hc := h.2.2.2.1 rfl
    have hle := h.le
    obtain rfl : n = 0 := by omega
    have : l = [] := List.eq_nil_of_length_eq_zero (by omega)
    subst this
    rw [run_convert_bytes_nil w src e hs he 0 cap dst hd]
    rfl
  | some a =>
    have hl : (loadCells a n).run P w = .ok ((l.map fun b => (b.toNat : Int)).map (Value.int .u8)).toArray w := by
      have := run_loadCells_list (P := P) w a (bc l) (fun j v hj => by
        obtain ⟨g, off, ha, hc⟩ := h.2.2.2.2 j v hj
        cases ha
        rw [Addr.add_lit]
        exact hc)
      rw [bc_length, hn] at this
      rw [this]
      simp [bc, Function.comp_def]
    rw [run_convert_bytes_string w src dst e _ n cap hs he hd, run_bytesToString w _ n cap _ hl, foldl_push_bytes]
    simp only [ByteArray.empty, ByteArray.emptyWithCapacity, List.map_map]
    have : (List.map ((fun n => UInt8.ofNat n.toNat) ∘ fun b : UInt8 => (b.toNat : Int)) l) = l := by
      conv => rhs; rw [← List.map_id l]
      apply List.map_congr_left
      intro b _
      simp
    rw [this]
    congr 2
    simp
    rfl

/-! ### Slices of structs, and the like -/
/-- The slice (A, n, cap), its elements of so many cells each: each one reads, in the sense of R, at its place. -/
def RdS {α : Type} (size : Nat) (R : Nat → Nat → α → Prop) (A : Option Addr) (n cap : Nat) (l : List α) : Prop :=
  l.length = n ∧ n ≤ cap ∧ cap ≤ maxLen ∧ (A = none → cap = 0) ∧ ∀ i (h : i < l.length), ∃ g off, A = some ⟨g, off, none⟩ ∧ R g (off + i * size) l[i]
theorem RdS.len {α : Type} {size : Nat} {R : Nat → Nat → α → Prop} {A : Option Addr} {n cap : Nat} {l : List α} (h : RdS size R A n cap l) : l.length = n := h.1
theorem RdS.le {α : Type} {size : Nat} {R : Nat → Nat → α → Prop} {A : Option Addr} {n cap : Nat} {l : List α} (h : RdS size R A n cap l) : n ≤ cap := h.2.1
theorem RdS.max {α : Type} {size : Nat} {R : Nat → Nat → α → Prop} {A : Option Addr} {n cap : Nat} {l : List α} (h : RdS size R A n cap l) : cap ≤ maxLen := h.2.2.1
theorem RdS.imp {α : Type} {size : Nat} {R R' : Nat → Nat → α → Prop} {A : Option Addr} {n cap : Nat} {l : List α} (h : RdS size R A n cap l) (hr : ∀ g o x, R g o x → R' g o x) : RdS size R' A n cap l :=
  ⟨h.1, h.2.1, h.2.2.1, h.2.2.2.1, fun i hi => by
    obtain ⟨g, off, e, hh⟩ := h.2.2.2.2 i hi
    exact ⟨g, off, e, hr _ _ _ hh⟩⟩
/-- All places, where there are some. -/
theorem RdS.at_ {α : Type} {size : Nat} {R : Nat → Nat → α → Prop} {A : Option Addr} {n cap : Nat} {l : List α} (h : RdS size R A n cap l) (hp : 0 < n) : ∃ g off, A = some ⟨g, off, none⟩ ∧ ∀ i (h : i < l.length), R g (off + i * size) l[i] := by
  have h1 := h.1
  obtain ⟨g, off, rfl, _⟩ := h.2.2.2.2 0 (by omega)
  refine ⟨g, off, rfl, fun i hi => ?_⟩
  obtain ⟨g', off', e, hh⟩ := h.2.2.2.2 i hi
  cases e
  exact hh

/-! ### What a call gives, behind a name that the walk does not open -/
def Gives (R : Value → World → Prop) (e : Ending) (w : World) : Prop := ∃ v, e = .returned v ∧ R v w
theorem Gives.mk {R : Value → World → Prop} {v : Value} {w : World} (h : R v w) : Gives R (.returned v) w := ⟨v, rfl, h⟩
theorem Gives.imp {R R' : Value → World → Prop} {e : Ending} {w : World} (h : Gives R e w) (hr : ∀ v, R v w → R' v w) : Gives R' e w := by
  obtain ⟨v, e, h⟩ := h
  exact ⟨v, e, hr v h⟩
/-- At a call: the world under a name. 'refine at_world fun W hW => ?_'; lay the facts on W by 'rw [hW]', then 'clear hW'. -/
theorem at_world {P : Program} {f : FuncId} {args : Array Value} {w : World} {R : Ending → World → Prop} (h : ∀ W, W = w → Calls P f args W R) : Calls P f args w R := h w rfl
end Go.Mem
