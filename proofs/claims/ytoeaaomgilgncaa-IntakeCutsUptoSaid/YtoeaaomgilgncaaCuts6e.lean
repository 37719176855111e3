/-
  IntakeCuts: the two readers, new.
-/
import Derived.Test.YtoeaaomgilgncaaCuts6d
namespace Go.Proofs.Ytoeaaomgilgncaa
open Go.RowKit Go.Mem Go.Intake
set_option linter.unusedVariables false
theorem two_start (w w1 : World) (hb : Below w.heap.size w w1) (max : Int) (hm : 1 ≤ max ∧ max ≤ 65535) (Az : Option Addr) (nz cz : Nat) :
    Two w ((((w1.alloc (.cells (InCells (new max) none 0).toArray 76)).alloc (.cells (InCells (new max) none 0).toArray 76)).alloc (.cells #[.pointer (some ⟨w1.heap.size, 0, none⟩), .slice Az nz cz, .int .i64 0, .slice none 0 0] 49)).alloc
      (.cells #[.pointer (some ⟨w1.heap.size + 1, 0, none⟩), .slice Az nz cz, .int .i64 0, .slice none 0 0] 49)) Az nz cz (w1.heap.size + 1 + 1) w1.heap.size (new max) 0 [] (w1.heap.size + 1 + 1 + 1) (w1.heap.size + 1) (new max) 0 [] := by
  have hs := hb.size
  have m0 : ∀ (u : World) (o : Obj), Mod (fun _ => False) u (u.alloc o) := fun u o => (Mod.refl _ u).alloc o
  have n1 := new_in w1 max hm
  have s1 := World.size_alloc w1 (.cells (InCells (new max) none 0).toArray 76)
  have n2 := new_in (w1.alloc (.cells (InCells (new max) none 0).toArray 76)) max hm
  rw [s1] at n2
  have n1a := n1.mod (m0 _ (.cells (InCells (new max) none 0).toArray 76)) fun _ _ h => h
  have s2 := World.size_alloc (w1.alloc (.cells (InCells (new max) none 0).toArray 76)) (.cells (InCells (new max) none 0).toArray 76)
  rw [s1] at s2
  have b2 := (hb.alloc hb.size (.cells (InCells (new max) none 0).toArray 76)).alloc (Nat.le_trans hb.size (by rw [s1]; omega)) (.cells (InCells (new max) none 0).toArray 76)
  generalize (w1.alloc (.cells (InCells (new max) none 0).toArray 76)).alloc (.cells (InCells (new max) none 0).toArray 76) = w2 at n1a n2 s2 b2 ⊢
  have r1 := Blk.new w2 [.pointer (some ⟨w1.heap.size, 0, none⟩), .slice Az nz cz, .int .i64 0, .slice none 0 0] 49
  have r2 := Blk.new (w2.alloc (.cells #[.pointer (some ⟨w1.heap.size, 0, none⟩), .slice Az nz cz, .int .i64 0, .slice none 0 0] 49)) [.pointer (some ⟨w1.heap.size + 1, 0, none⟩), .slice Az nz cz, .int .i64 0, .slice none 0 0] 49
  rw [World.size_alloc, s2] at r2
  rw [s2] at r1
  have hmm := (m0 w2 (.cells #[.pointer (some ⟨w1.heap.size, 0, none⟩), .slice Az nz cz, .int .i64 0, .slice none 0 0] 49)).alloc (.cells #[.pointer (some ⟨w1.heap.size + 1, 0, none⟩), .slice Az nz cz, .int .i64 0, .slice none 0 0] 49)
  have hft : ∀ r p j, foot3 r p none none [] j → j = r ∨ j = p := fun r p j hj => by
    rcases hj with h | (h | h) | h | ⟨_, h, _⟩
    · exact .inl h
    · exact .inr h
    · simp at h
    · simp at h
    · simp at h
  refine ⟨none, 0, none, 0, [], none, 0, none, 0, [], ⟨r1.alloc _, n1a.mod hmm fun _ _ h => h, Own.nil _ _ _, rfl, fun i hi => by simp at hi⟩, ⟨r2, n2.mod hmm fun _ _ h => h, Own.nil _ _ _, rfl, fun i hi => by simp at hi⟩, fun j hj hj' => ?_, fun j hj => ?_, b2.trans (hmm.below b2.size fun _ _ h => h)⟩
  · have := hft _ _ _ hj
    have := hft _ _ _ hj'
    omega
  · rcases hj with hj | hj
    · have := hft _ _ _ hj
      omega
    · have := hft _ _ _ hj
      omega
end Go.Proofs.Ytoeaaomgilgncaa
