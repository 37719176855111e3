/-
  IntakeScript: the walks of the document's intake: Body, Clone.
-/
import Derived.Test.YtoeaaomgilgncaaRefWalks2
import Derived.StillTailTactics
import Derived.Deep.RegionHeld3
import Derived.Deep.DeepCutAuto
import Derived.Test.YtoeaaomgilgncaaStep
namespace Go.Proofs.Ytoeaaomgilgncaa
open Go.RowKit Go.Mem Go.Intake
set_option linter.unusedVariables false

set_option maxRecDepth 100000 in
theorem RBody_calls (w : World) (p : Nat) (A : Option Addr) (cap : Nat) (r : RS) (h : RIn w p A cap r) (n : Int) (hn : -9223372036854775808 ≤ n ∧ n ≤ 9223372036854775807) (hsz : r.held.length ≤ 140737488355328) :
    Calls Try.prog 30 #[.pointer (some ⟨p, 0, none⟩), .int .i64 n] w (Gives fun v w' => v = .int .i64 (rbody r n).2 ∧ RPost w p A (rbody r n).1 w') := by
  obtain ⟨c0, c1, _, c3, _⟩ := h.cells
  have f1 := h.frozen 1
  have f3 := h.frozen 3
  have hno : ∀ w', w' = w → (n < 0 ∨ n > 4294967295 ∨ r.mode ≠ 0) → Gives (fun v w' => v = .int .i64 (rbody r n).2 ∧ RPost w p A (rbody r n).1 w') (.returned (.int .i64 61)) w' := fun w' hw hc => by
    subst hw
    unfold rbody
    rw [if_pos hc]
    exact Gives.mk ⟨rfl, A, cap, h, Mod.refl _ _, fun k hk => .inl hk⟩
  have H := Lib.hid h
  have HNO := Lib.hid hno
  clear h hno
  by_cases h0 : n < 0
  · go_enter Try.func30, Try.ntmps30
    go_wp2
    go_ret
    exact HNO.out _ rfl (.inl h0)
  · by_cases h1 : 4294967295 < n
    · go_enter Try.func30, Try.ntmps30
      go_wp2
      go_ret
      exact HNO.out _ rfl (.inr (.inl h1))
    · by_cases h2 : r.mode = 0
      · rw [h2] at c1
        have hc : ¬ (n < 0 ∨ n > 4294967295 ∨ r.mode ≠ 0) := by omega
        by_cases h3 : n ≤ r.most
        · have HE : Hid (rbody r n = ({ r with mode := 2, n := n }, 0)) := by unfold rbody; rw [if_neg hc, if_pos h3]; exact rfl
          have hput := (H.out.put 1 (.int .i64 2) { r with mode := 2 } (by simp [RCells]) rfl ⟨.inr (.inr (.inl rfl)), H.out.ok.n⟩).put 3 (.int .i64 n) { r with mode := 2, n := n } (by simp [RCells]) rfl ⟨.inr (.inr (.inl rfl)), by simp only []; omega⟩
          have hm := ((Mod.refl (foot p A) w).setCell (p := ⟨p, 1, none⟩) (fun _ => .inl rfl) (.int .i64 2)).setCell (p := ⟨p, 3, none⟩) (fun _ => .inl rfl) (.int .i64 n)
          have HF := Lib.hid (And.intro hput hm)
          clear hput hm hc h2
          go_enter Try.func30, Try.ntmps30
          go_wp2
          go_ret
          rw [HE.out]
          exact Gives.mk ⟨rfl, A, cap, HF.out.1, HF.out.2, fun k hk => .inl hk⟩
        · have HE : Hid (rbody r n = (rfeed { r with mode := 3, n := n + 2, held := [] } r.held, 0)) := by unfold rbody; rw [if_neg hc, if_neg h3]; exact rfl
          have hput := (H.out.put 1 (.int .i64 3) { r with mode := 3 } (by simp [RCells]) rfl ⟨.inr (.inr (.inr rfl)), H.out.ok.n⟩).put 3 (.int .i64 (n + 2)) { r with mode := 3, n := n + 2 } (by simp [RCells]) rfl ⟨.inr (.inr (.inr rfl)), by simp only []; omega⟩
          have hm := ((Mod.refl (foot p A) w).setCell (p := ⟨p, 1, none⟩) (fun _ => .inl rfl) (.int .i64 3)).setCell (p := ⟨p, 3, none⟩) (fun _ => .inl rfl) (.int .i64 (n + 2))
          have HF := Lib.hid (And.intro hput hm)
          clear hput hm hc h2
          go_enter Try.func30, Try.ntmps30
          go_wp2_with fail
          with_reducible refine (again_calls _ p A cap { r with mode := 3, n := n + 2 } HF.out.1 hsz).mono ?_
          rintro e w' ⟨v, rfl, rfl, A', cap', hin, hm2, hA⟩
          have HP : Hid (RPost w p A (rfeed { r with mode := 3, n := n + 2, held := [] } r.held) w') := ⟨A', cap', hin, HF.out.2.trans hm2, fun k hk => by
            rcases hA k hk with h | h
            · exact .inl h
            · exact .inr (Nat.le_trans HF.out.2.size h)⟩
          clear hin hm2 hA
          go_wp2_with fail
          go_ret
          rw [HE.out]
          exact Gives.mk ⟨rfl, HP.out⟩
      · have hb : (r.mode != 0) = true := by simpa using h2
        go_enter Try.func30, Try.ntmps30
        go_wp2
        go_ret
        exact HNO.out _ rfl (.inr (.inr h2))

/-- The clone, behind the append. -/
def RCut (w : World) (r : RS) (W : World) : Prop := ∃ A' cap', RIn W w.heap.size A' cap' r ∧ Mod (fun _ => False) w W ∧ ∀ k, foot w.heap.size A' k → w.heap.size ≤ k
theorem RCut.mk' {w W W6 w7 : World} {r : RS} {A2 : Option Addr} {cap2 : Nat} (hb : Blk W w.heap.size (RCells { r with held := [] } none 0) 78) (hm : Mod (fun _ => False) w W) (hm0 : Mod (fun _ => False) W W6) (hok : r.Ok) (ho : Own w7 5 1 A2 (0 + r.held.length) cap2 (bc [] ++ bc r.held)) (hm7 : Mod (InB none) W6 w7)
    (hin : ∀ k, InB A2 k → InB none k ∨ W6.heap.size ≤ k) : RCut w r (w7.setCell ⟨w.heap.size, 2, none⟩ (.slice A2 (0 + r.held.length) cap2)) := by
  have hm7' : Mod (fun _ => False) W6 w7 := hm7.mono fun i _ hi => by simp at hi
  have hA : ∀ k, InB A2 k → w.heap.size + 1 ≤ k := fun k hk => by
    rcases hin k hk with h | h
    · simp at h
    · have := hb.lt
      have := hm0.size
      omega
  rw [Nat.zero_add] at ho ⊢
  simp only [bc_nil, List.nil_append] at ho
  refine ⟨A2, cap2, ⟨?_, ?_, hok⟩, ((hm.trans hm0).trans hm7').setCell (fun h => absurd h (Nat.lt_irrefl _)) _, fun k hk => ?_⟩
  · have := ((hb.mod hm0 id).mod hm7' id).store 2 (.slice A2 r.held.length cap2)
    simpa [RCells] using this
  · exact ho.setCell _ _ fun hf => by have := hA _ hf; simp only [] at this; omega
  · rcases hk with rfl | hk
    · exact Nat.le_refl _
    · have := hA k hk; omega
def RClonePost (w : World) (r : RS) (v : Value) (w' : World) : Prop :=
  ∃ q A' cap', v = .pointer (some ⟨q, 0, none⟩) ∧ RIn w' q A' cap' r ∧ Mod (fun _ => False) w w' ∧ ∀ k, foot q A' k → w.heap.size ≤ k
set_option maxRecDepth 100000 in
set_option maxHeartbeats 1000000 in
theorem RClone_calls (w : World) (p : Nat) (A : Option Addr) (cap : Nat) (r : RS) (h : RIn w p A cap r) (hsz : r.held.length ≤ 140737488355328) : Calls Try.prog 43 #[.pointer (some ⟨p, 0, none⟩)] w (Gives (RClonePost w r)) := by
  obtain ⟨c0, c1, c2, c3, c4, c5⟩ := h.cells
  have hlt := h.blk.lt
  have H := Lib.hid h
  clear h
  go_enter Try.func43, Try.ntmps43
  go_wp2_with fail
  go_still_tail 21, (by kernel_rfl)
  go_wp2_with fail
  have hb1 : Blk ((w.alloc (.cells #[.int .i64 r.most, .int .i64 r.mode, .slice none 0 0, .int .i64 r.n, .bool r.cr, .bool r.ended] 78)).drew) w.heap.size (RCells { r with held := [] } none 0) 78 := (Blk.new w (RCells { r with held := [] } none 0) 78).drew
  have hm1 := ((Mod.refl (fun _ => False) w).alloc (.cells #[.int .i64 r.most, .int .i64 r.mode, .slice none 0 0, .int .i64 r.n, .bool r.cr, .bool r.ended] 78)).drew
  have hr1 := H.out.own.rd.mod hm1 fun _ _ => id
  have c2' := hm1.cell c2 id
  have hw1 := hb1.lt
  clear c0 c1 c2 c3 c4 c5
  generalize (w.alloc (.cells #[.int .i64 r.most, .int .i64 r.mode, .slice none 0 0, .int .i64 r.n, .bool r.cr, .bool r.ended] 78)).drew = W at hb1 hm1 hr1 c2' hw1 ⊢
  have k2 := hb1.cell 2
  simp only [RCells, List.getElem?_cons_zero, List.getElem?_cons_succ, List.length_nil] at k2
  have HB := Lib.hid (And.intro hb1 (And.intro hm1 H.out.ok))
  have HR := Lib.hid (fun W6 (hm : Mod (fun _ => False) W W6) => hr1.mod hm fun _ _ => id)
  have HK := Lib.hid (fun W6 (hm : Mod (fun _ => False) W W6) => hb1.mod hm id)
  clear hb1 hm1 hr1
  go_cut [] (fun W' => RCut w r W')
  case first =>
    go_region_law (refine step_append rfl (.tmp 30) (.tmp 34) 30 30 rfl Try.elt30 none 0 0 (bc []) (by simp [Act.eval, Act.put]) (Own.nil _ _ _) (.slice A r.held.length cap) r.held.length (bc r.held) (by simp [Act.eval, Act.put]) (Rd.src (HR.out _ (by repeat (first | exact Mod.refl _ _ | apply Mod.alloc | apply Mod.drew | apply Mod.drewN))) Try.underlying30 (bc_one _)) (by unfold maxLen; omega) (by omega) ?_; intro A7 c7 w7 ho7 hm7 hin7; have hb7 : Blk w7 w.heap.size _ 78 := Blk.mod (HK.out _ (by repeat (first | exact Mod.refl _ _ | apply Mod.alloc | apply Mod.drew | apply Mod.drewN))) hm7 (by simp); have q2 := hb7.cell 2; have qf := hb7.frozen 2 (by simp [RCells]); simp only [RCells, List.getElem?_cons_zero, List.getElem?_cons_succ, List.length_nil] at q2)
    all_goals
      have HT : Hid (RCut w r (w7.setCell ⟨w.heap.size, 2, none⟩ (.slice A7 (0 + r.held.length) c7))) := RCut.mk' HB.out.1 HB.out.2.1 (by repeat (first | exact Mod.refl _ _ | apply Mod.alloc | apply Mod.drew | apply Mod.drewN)) HB.out.2.2 ho7 hm7 (fun j hj => by simpa using hin7 j hj)
      rw [Nat.zero_add] at HT
      clear ho7 hm7 hin7 hb7
      go_wp2_with fail
      go_meet
      exact HT.out
  case rest =>
    obtain ⟨A', cap', hin, hm, hA⟩ := hcut
    have HT := Lib.hid (And.intro hin (And.intro hm hA))
    clear hin hm hA
    go_wp2_with fail
    go_ret
    exact Gives.mk ⟨w.heap.size, A', cap', rfl, HT.out.1, HT.out.2.1, HT.out.2.2⟩
end Go.Proofs.Ytoeaaomgilgncaa
