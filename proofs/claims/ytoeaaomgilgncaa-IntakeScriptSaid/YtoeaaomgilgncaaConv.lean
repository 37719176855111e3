/-
  '[]byte(s)' and a new row, in the vocabulary of Base.
-/
import Derived.Test.YtoeaaomgilgncaaBase
import Derived.Laws.IdiomStrings
namespace Go.Mem
open Go.RowKit
set_option linter.unusedVariables false

/-- A row that a literal lays. -/
theorem Own.row (w : World) (e : TypeId) (size n : Nat) (c : List Value) (h : c.length = n * size) (hn : n ≤ maxLen) : Own (w.alloc (.cells c.toArray e)) e size (some ⟨w.heap.size, 0, none⟩) n n c :=
  ⟨h, Nat.le_refl _, hn, .inr ⟨_, _, c, rfl, Blk.new w c e, by omega, by rw [List.drop_zero, ← h, List.take_length]⟩⟩
/-- '[]byte(s)'. -/
theorem run_bytesOf {P : Program} (w : World) {src dst e : TypeId} (s : ByteArray) (l : List UInt8) (hsl : s.data.toList = l) (hs : P.underlying src = some .string) (hd : P.underlying dst = some (.slice e)) (he : P.underlying e = some (.int .u8)) (hm : l.length ≤ maxLen) :
    ∃ cap W', (convert src dst (.string s)).run P w = .ok (.slice (some ⟨w.heap.size, 0, none⟩) s.size cap) W' ∧ OwnB W' e (some ⟨w.heap.size, 0, none⟩) l.length cap l ∧ Mod (fun _ => False) w W' ∧ w.heap.size < W'.heap.size := by
  subst hsl
  have hz : s.data.toList.length = s.size := by rw [Array.length_toList]; rfl
  have hge := grownCap_ge w s.size 0 e
  have hcm := grownCap_le_maxLen w s.size 0 e (by omega)
  have hrow : bytesRow s (grownCap w s.size 0 e) = (bc s.data.toList ++ List.replicate (grownCap w s.size 0 e - s.size) (Value.int .u8 0)).toArray := by
    simp [bytesRow, bc]
  have hl : (bc s.data.toList ++ List.replicate (grownCap w s.size 0 e - s.size) (Value.int .u8 0)).length = grownCap w s.size 0 e := by
    rw [List.length_append, bc_length, hz, List.length_replicate]
    omega
  refine ⟨_, _, run_bytes_of_string w src dst e s hs hd he, ?_, ((Mod.refl _ w).drew).alloc _, by rw [World.size_alloc]; exact Nat.lt_succ_self _⟩
  rw [hrow]
  refine ⟨by simp, by omega, hcm, .inr ⟨w.heap.size, 0, _, rfl, ?_, by rw [hl]; omega, ?_⟩⟩
  · have := Blk.marked w.drew (bc s.data.toList ++ List.replicate (grownCap w s.size 0 e - s.size) (Value.int .u8 0)) e ((bc s.data.toList ++ List.replicate (grownCap w s.size 0 e - s.size) (Value.int .u8 0)).length + 1)
    rw [List.size_toArray]
    exact this
  · rw [List.drop_zero, Nat.mul_one]
    exact List.take_left' (by simp)
end Go.Mem
