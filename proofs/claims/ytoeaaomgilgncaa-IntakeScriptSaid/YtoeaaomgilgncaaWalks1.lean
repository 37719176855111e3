/-
  The walks of package intake: each function does what the plain one says.
-/
import Derived.Test.YtoeaaomgilgncaaProg
import Derived.Test.YtoeaaomgilgncaaModel
namespace Go.Proofs.Ytoeaaomgilgncaa
open Go.RowKit Go.Mem Go.Intake
set_option linter.unusedVariables false

theorem Try.elt30 : Elt Try.prog 30 5 1 1 := elt_of (.int .u8 0) Try.underlying30 rfl (by kernel_rfl) rfl (by decide)

/-- An intake at p: its cells, and what it holds. -/
def InCells (s : St) (A : Option Addr) (cap : Nat) : List Value :=
  [.int .i64 s.most, .int .i64 s.stands, .slice A s.held.length cap, .int .i64 s.size, .int .i64 s.left, .bool s.half, .bool s.ended]
structure IsIn (w : World) (p : Nat) (A : Option Addr) (cap : Nat) (s : St) : Prop where
  blk : Blk w p (InCells s A cap) 76
  own : OwnB w 5 A s.held.length cap s.held
  ok : s.Ok
theorem IsIn.apart {w : World} {p : Nat} {A : Option Addr} {cap : Nat} {s : St} (h : IsIn w p A cap s) : ¬ InB A p := by
  intro hk
  obtain ⟨_, _, _, ⟨rfl, _⟩ | ⟨g, off, cur, rfl, hb, _⟩⟩ := h.own
  · simp at hk
  · simp at hk
    subst hk
    exact absurd (hb.eq h.blk).2 (by decide)
/-- What an intake may turn: its own cells, and its array. -/
def foot (p : Nat) (A : Option Addr) (k : Nat) : Prop := k = p ∨ InB A k
theorem IsIn.mod {S : Nat → Prop} {w w' : World} {p : Nat} {A : Option Addr} {cap : Nat} {s : St} (h : IsIn w p A cap s) (hm : Mod S w w') (hn : ∀ k, foot p A k → ¬ S k) : IsIn w' p A cap s :=
  ⟨h.blk.mod hm (hn p (.inl rfl)), h.own.mod hm fun k hk => hn k (.inr hk), h.ok⟩
theorem IsIn.lt {w : World} {p : Nat} {A : Option Addr} {cap : Nat} {s : St} (h : IsIn w p A cap s) (k : Nat) (hk : foot p A k) : k < w.heap.size := by
  rcases hk with rfl | hk
  · exact h.blk.lt
  · exact h.own.lt k hk
theorem IsIn.cells {w : World} {p : Nat} {A : Option Addr} {cap : Nat} {s : St} (h : IsIn w p A cap s) :
    w.cell? ⟨p, 0, none⟩ = some (.int .i64 s.most) ∧ w.cell? ⟨p, 1, none⟩ = some (.int .i64 s.stands) ∧ w.cell? ⟨p, 2, none⟩ = some (.slice A s.held.length cap) ∧ w.cell? ⟨p, 3, none⟩ = some (.int .i64 s.size) ∧
    w.cell? ⟨p, 4, none⟩ = some (.int .i64 s.left) ∧ w.cell? ⟨p, 5, none⟩ = some (.bool s.half) ∧ w.cell? ⟨p, 6, none⟩ = some (.bool s.ended) := by
  simp [h.blk.cell, InCells]
theorem IsIn.frozen {w : World} {p : Nat} {A : Option Addr} {cap : Nat} {s : St} (h : IsIn w p A cap s) (o : Nat) (ho : o < 7 := by decide) : w.frozen? ⟨p, o, none⟩ = false := h.blk.frozen o (by simpa [InCells] using ho)

/-! ### New -/
theorem New_no (w : World) (m : Int) (h : m < 1 ∨ 65535 < m) : Calls Try.prog 16 #[.int .i64 m] w fun e w' => e = .returned (.tuple #[.pointer none, .int .i64 60]) ∧ w = w' := by
  go_enter Try.func16, Try.ntmps16
  rcases h with h | h
  · go_wp2
    go_ret2
    exact ⟨rfl, rfl⟩
  · by_cases h1 : m < 1
    · go_wp2
      go_ret2
      exact ⟨rfl, rfl⟩
    · go_wp2
      go_ret2
      exact ⟨rfl, rfl⟩
theorem New_ok (w : World) (m : Int) (h1 : 1 ≤ m) (h2 : m ≤ 65535) :
    Calls Try.prog 16 #[.int .i64 m] w fun e w' => e = .returned (.tuple #[.pointer (some ⟨w.heap.size, 0, none⟩), .int .i64 0]) ∧ w' = w.alloc (.cells (InCells (new m) none 0).toArray 76) := by
  go_enter Try.func16, Try.ntmps16
  go_wp2
  go_ret2
  exact ⟨rfl, rfl⟩

/-! ### Held -/
theorem Held_calls (w : World) (p : Nat) (A : Option Addr) (cap : Nat) (s : St) (h : IsIn w p A cap s) : Calls Try.prog 13 #[.pointer (some ⟨p, 0, none⟩)] w fun e w' => e = .returned (.int .i64 s.held.length) ∧ w = w' := by
  obtain ⟨_, _, c2, _⟩ := h.cells
  have hl := h.own.le
  have hm := h.own.max
  unfold maxLen at hm
  clear h
  go_enter Try.func13, Try.ntmps13
  go_wp2
  go_ret
  exact ⟨rfl, rfl⟩

/-! ### take -/
theorem take_calls (w : World) (p : Nat) (A : Option Addr) (len cap n : Nat) (h2 : w.cell? ⟨p, 2, none⟩ = some (.slice A len cap)) (f2 : w.frozen? ⟨p, 2, none⟩ = false)
    (hn : n ≤ len) (hl : len ≤ cap) (hm : cap ≤ maxLen) :
    Calls Try.prog 38 #[.pointer (some ⟨p, 0, none⟩), .int .i64 n] w fun e w' => e = .returned (.slice A n cap) ∧ w' = w.setCell ⟨p, 2, none⟩ (.slice (cutA A cap n 1) (len - n) (cap - n)) := by
  unfold maxLen at hm
  have hs1 : ∀ W, (Instr.slice 30 (.slice A len cap) none (some (.int .i64 n)) none).run Try.prog W = .ok (.slice A n cap) W := fun W => by
    rw [run_slice_h (P := Try.prog) W 30 A len cap Try.underlying30 .i64 n (by omega) (by omega), Try.elt30.sizeOf]
    simp [Result.andThen, sliced]
    cases A <;> simp [Addr.add]
  have hs2 : ∀ W, (Instr.slice 30 (.slice A len cap) (some (.int .i64 n)) none none).run Try.prog W = .ok (.slice (cutA A cap n 1) (len - n) (cap - n)) W := fun W => by
    rw [run_slice_l (P := Try.prog) W 30 A len cap Try.underlying30 .i64 n (by omega) (by omega), Try.elt30.sizeOf]
    simp [Result.andThen, sliced, cutA]
  go_enter Try.func38, Try.ntmps38
  go_wp2
  go_ret
  exact ⟨rfl, rfl⟩
end Go.Proofs.Ytoeaaomgilgncaa
