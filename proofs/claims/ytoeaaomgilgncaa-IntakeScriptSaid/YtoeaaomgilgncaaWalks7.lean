/-
  The walk of the statements' head: shown.
-/
import Derived.Test.YtoeaaomgilgncaaWalks6
import Derived.Lib.SlBytesConst
namespace Go.Proofs.Ytoeaaomgilgncaa
open Go.RowKit Go.Mem Go.Intake
set_option linter.unusedVariables false

def abText : List UInt8 := [97, 98, 13, 10, 120, 121, 122, 13, 10, 113]
theorem new_in (w : World) (m : Int) (h : 1 ≤ m ∧ m ≤ 65535) : IsIn (w.alloc (.cells (InCells (new m) none 0).toArray 76)) w.heap.size none 0 (new m) :=
  ⟨Blk.new w _ 76, Own.nil _ _ _, ⟨h, .inl rfl, by simp [new], by simp [new]⟩⟩

def sh1 : St := { new 4 with held := abText }
def sh2 : St := { sh1 with held := [120, 121, 122, 13, 10, 113] }
def sh3 : St := { sh2 with stands := 2, size := 3 }
def sh4 : St := { sh2 with size := 3, held := [113] }
theorem sh1_eq : feed (new 4) abText = sh1 := rfl
theorem sh2_eq : next sh1 = (sh2, some (item 1 [97, 98] [])) := rfl
theorem sh3_eq : body sh2 3 = (sh3, 0) := rfl
theorem sh4_eq : next sh3 = (sh4, some (item 3 [] [120, 121, 122])) := rfl
theorem Lw.pos {w : World} (h : Lw w) : 0 < w.heap.size := by
  obtain ⟨m, h⟩ := h
  exact World.block_lt_of_cell? _ _ h
def ShownPost (w : World) (v : Value) (w' : World) : Prop := v = .bool true ∧ Mod (fun _ => False) w w'
set_option maxRecDepth 100000 in
set_option maxHeartbeats 2000000 in
theorem shown_calls (w : World) (hG : Lw w) : Calls Try.prog 8 #[] w (Gives (ShownPost w)) := by
  have kc := fun (w : World) (C : Array Value) (n c : Nat) => Lib.run_convert_bytes_const (P := Try.prog) w 30 5 C n c Try.underlying30 Try.underlying5
  go_enter Try.func8, Try.ntmps8
  go_wp2_with fail
  with_reducible refine (New_ok w 4 (by omega) (by omega)).mono ?_
  rintro e w1 ⟨rfl, rfl⟩
  have h1 := new_in w 4 (by omega)
  have hm1 := (Mod.refl (fun _ => False) w).alloc (.cells (InCells (new 4) none 0).toArray 76)
  generalize w.alloc (.cells (InCells (new 4) none 0).toArray 76) = w1 at h1 hm1 ⊢
  have H1 := Lib.hid (And.intro h1 hm1)
  clear h1 hm1
  go_wp2_with fail
  with_reducible refine (IClone_calls w1 _ _ _ _ H1.out.1 (by simp [new])).mono ?_
  rintro e w2 ⟨v, rfl, q, A', cap', rfl, hq, hm2, -⟩
  have h2 := H1.out.1.mod hm2 fun _ _ h => h
  have H2 := Lib.hid (And.intro h2 (H1.out.2.trans hm2))
  clear h2 hm2 hq
  go_wp2_with fail
  have hbn := Blk.marked w2 (bc abText) 5 11
  have hmb := (Mod.refl (fun _ => False) w2).alloc (.cells (bc abText).toArray 5 ((bc abText).length, 11))
  have hr3 : RdB (w2.alloc (.cells (bc abText).toArray 5 ((bc abText).length, 11))) (some ⟨w2.heap.size, 0, none⟩) 10 10 abText :=
    (show Own _ 5 1 _ 10 10 (bc abText) from ⟨rfl, Nat.le_refl _, by unfold maxLen; omega, .inr ⟨_, 0, _, rfl, hbn, by decide, rfl⟩⟩).rd
  have h3 := H2.out.1.mod hmb fun _ _ h => h
  refine at_world fun W hW => ?_
  have hWe : W = w2.alloc (.cells (bc abText).toArray 5 ((bc abText).length, 11)) := hW
  rw [← hWe] at h3 hr3 hmb
  clear hWe hW hbn
  have H3 := Lib.hid (And.intro h3 (And.intro hr3 (H2.out.2.trans hmb)))
  have hne : bc abText ≠ [] := by decide
  have hn2 : w.heap.size < w2.heap.size := H2.out.1.blk.lt
  clear h3 hr3 hmb
  with_reducible refine (Feed_calls W _ _ _ _ H3.out.1 _ _ _ _ H3.out.2.1 (fun _ h => by simp at h; omega) (by simp [new])).mono ?_
  rintro e w3 ⟨v, rfl, A3, cap3, rfl, h4, hm4, hA3⟩
  rw [sh1_eq] at h4
  have hp := hG.pos
  have hm5 : Mod (fun _ => False) w w3 := H3.out.2.2.trans' hm4 fun i hi hf => by
    rcases hf with rfl | hf
    · exact absurd hi (Nat.lt_irrefl _)
    · simp at hf
  have hA4 : ∀ k, InB A3 k → w.heap.size ≤ k := fun k hk => by
    rcases hA3 k hk with h | h
    · simp at h
    · have := H3.out.2.2.size
      omega
  have H4 := Lib.hid (And.intro h4 (And.intro hm5 (And.intro hA4 hG)))
  clear h4 hm4 hm5 hA3 hA4 hG hne
  go_wp2_with fail
  -- the line
  have hG3 := H4.out.2.2.2.mod H4.out.2.1 id
  have h04 : ¬ foot w.heap.size A3 0 := fun h => by
    rcases h with h | h
    · omega
    · have := H4.out.2.2.1 _ h; omega
  with_reducible refine (Next_calls w3 _ _ _ _ H4.out.1 (by simp [sh1, abText]) hG3 h04).mono ?_
  rintro e w4 ⟨v, rfl, hx⟩
  unfold NextPost at hx
  rw [sh2_eq] at hx
  obtain ⟨A4, cap4, Ab, nb, cb, rfl, h5, hob, hfr, hm6, hA5⟩ := hx
  have hm7 : Mod (fun _ => False) w w4 := H4.out.2.1.trans' hm6 fun i hi hf => by
    rcases hf with rfl | hf
    · exact absurd hi (Nat.lt_irrefl _)
    · have := H4.out.2.2.1 _ hf; omega
  have hA6 : ∀ k, InB A4 k → w.heap.size ≤ k := fun k hk => by
    rcases hA5 k hk with h | h
    · exact H4.out.2.2.1 _ h
    · have := H4.out.2.1.size
      omega
  simp only [item, Option.getD_some, Option.isSome_some, List.nil_append] at hob ⊢
  have H5 := Lib.hid (And.intro h5 (And.intro hm7 (And.intro hA6 H4.out.2.2.2)))
  clear h5 hob hfr hm6 hA5 hm7 hA6 hG3 H4
  go_wp2_with fail
  -- a body is awaited
  have hbx := Blk.new w4 [.int .i64 1, .string ⟨#[97, 98]⟩, .slice Ab nb cb] 54
  have hmx := (Mod.refl (fun _ => False) w4).alloc (.cells #[.int .i64 1, .string ⟨#[97, 98]⟩, .slice Ab nb cb] 54)
  have h6 := H5.out.1.mod hmx fun _ _ h => h
  refine at_world fun W4 hW4 => ?_
  have hWe : W4 = w4.alloc (.cells #[.int .i64 1, .string ⟨#[97, 98]⟩, .slice Ab nb cb] 54) := hW4
  have hbx2 : Blk W4 w4.heap.size [.int .i64 1, .string ⟨#[97, 98]⟩, .slice Ab nb cb] 54 := by rw [hWe]; exact hbx
  rw [← hWe] at h6 hmx
  clear hbx hWe hW4
  with_reducible refine (Body_calls W4 _ _ _ _ h6 3 (by omega) (by simp [sh2])).mono ?_
  rintro e w5 ⟨v, rfl, hx⟩
  unfold BodyPost at hx
  rw [sh3_eq] at hx
  obtain ⟨A5, cap5, rfl, h7, hm8, hA7⟩ := hx
  have hlt4 : w.heap.size < w4.heap.size := H5.out.1.blk.lt
  have hbx3 := hbx2.mod hm8 (by omega)
  have hm9 : Mod (fun _ => False) w w5 := (H5.out.2.1.trans hmx).trans' hm8 fun i hi e => by omega
  have hA8 : ∀ k, InB A5 k → w.heap.size ≤ k := fun k hk => H5.out.2.2.1 _ (hA7 k hk)
  have H6 := Lib.hid (And.intro h7 (And.intro hm9 (And.intro hA8 (And.intro hbx3 H5.out.2.2.2))))
  clear h6 h7 hmx hbx2 hm8 hA7 hbx3 hm9 hA8 H5
  simp only []
  go_wp2_with fail
  -- the body
  have hG5 := H6.out.2.2.2.2.mod H6.out.2.1 id
  have h05 : ¬ foot w.heap.size A5 0 := fun h => by
    rcases h with h | h
    · omega
    · have := H6.out.2.2.1 _ h; omega
  with_reducible refine (Next_calls w5 _ _ _ _ H6.out.1 (by simp [sh3, sh2]) hG5 h05).mono ?_
  rintro e w6 ⟨v, rfl, hx⟩
  unfold NextPost at hx
  rw [sh4_eq] at hx
  obtain ⟨A6, cap6, Ac, nc, cc, rfl, h8, hoc, hfr, hm10, hA9⟩ := hx
  have hm11 : Mod (fun _ => False) w w6 := H6.out.2.1.trans' hm10 fun i hi hf => by
    rcases hf with rfl | hf
    · exact absurd hi (Nat.lt_irrefl _)
    · have := H6.out.2.2.1 _ hf; omega
  have hA10 : ∀ k, InB A6 k → w.heap.size ≤ k := fun k hk => by
    rcases hA9 k hk with h | h
    · exact H6.out.2.2.1 _ h
    · have := H6.out.2.1.size
      omega
  simp only [item, Option.getD_some, Option.isSome_some, List.nil_append] at hoc ⊢
  have hst := hoc.rd
  have hcl := hoc.blen
  have H7 := Lib.hid (And.intro h8 (And.intro hm11 (And.intro hA10 hst)))
  have hbx4 := H6.out.2.2.2.1.mod hm10 fun hf => by
    rcases hf with hf | hf
    · omega
    · rcases H6.out.1.own with ⟨_, _, _, ⟨hx, _⟩ | ⟨g, off, cur, hx, hb, _⟩⟩
      · rw [hx] at hf; simp at hf
      · rw [hx] at hf
        simp at hf
        have := hb.ne H6.out.2.2.2.1 (by decide)
        omega
  have x0 := hbx4.cell 0
  have x1 := hbx4.cell 1
  have hxlt := hbx4.lt
  simp only [List.getElem?_cons_zero, List.getElem?_cons_succ] at x0 x1
  have hcv : ∀ o, (convert 30 9 (.slice Ac nc cc)).run Try.prog (w6.alloc o) = .ok (.string ⟨#[120, 121, 122]⟩) (w6.alloc o) := fun o =>
    Rd.string (Rd.mod hst ((Mod.refl (fun _ => False) w6).alloc o) fun _ _ => id) Try.underlying30 Try.underlying5 Try.underlying9
  clear h8 hoc hfr hm10 hA9 hm11 hA10 hG5 hst hbx4
  go_wp2_with fail
  -- what is held
  have h9 := H7.out.1.mod ((Mod.refl (fun _ => False) w6).alloc (.cells #[.int .i64 3, .string ⟨#[]⟩, .slice Ac nc cc] 54)) fun _ _ h => h
  with_reducible refine (Held_calls _ _ _ _ _ h9).mono ?_
  rintro e w7 ⟨rfl, rfl⟩
  clear h9 hcv
  go_wp2_with fail
  go_ret
  exact Gives.mk ⟨rfl, H7.out.2.1.alloc _⟩
end Go.Proofs.Ytoeaaomgilgncaa
