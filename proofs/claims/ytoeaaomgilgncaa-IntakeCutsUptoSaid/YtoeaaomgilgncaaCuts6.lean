/-
  IntakeCuts: the plain law for two readers: the one that is fed whole, the one that is fed in pieces.
-/
import Derived.Test.YtoeaaomgilgncaaCuts5
namespace Go.Proofs.Ytoeaaomgilgncaa
open Go.RowKit Go.Mem Go.Intake
set_option linter.unusedVariables false

theorem feed_meas (s : St) (b : List UInt8) : meas (feed s b) ≤ meas s + 2 * b.length := by
  unfold meas
  rw [feed_stands]
  unfold feed
  split
  · have := skipLine_len s.half b
    simp only [List.length_append]
    omega
  · split
    · simp only [List.length_append, List.length_drop]
      omega
    · simp only [List.length_append]
      omega
/-- What was fed and drained in pieces so far (the bytes 'done', the items 'l') tells the same as if it were all fed whole. -/
structure Same (sizes : List Int) (s0 : St) (fed : List UInt8) (s : St) (k : Nat) (l : List It) : Prop where
  ok : s.Ok
  glue : ∀ b l2 s' k', Drains sizes (feed s b) k l2 s' k' → Drains sizes (feed s0 (fed ++ b)) 0 (l ++ l2) s' k'
theorem Same.start {sizes : List Int} {s0 : St} (h : s0.Ok) : Same sizes s0 [] s0 0 [] := ⟨h, fun b l2 s' k' hd => hd⟩
theorem Same.feed {sizes : List Int} {s0 s : St} {fed : List UInt8} {k : Nat} {l : List It} (h : Same sizes s0 fed s k l) (b : List UInt8) : Same sizes s0 (fed ++ b) (feed s b) k l :=
  ⟨h.ok.feed b, fun c l2 s' k' hd => by
    rw [feed_feed _ _ _ h.ok.left.1] at hd
    rw [List.append_assoc]
    exact h.glue _ _ _ _ hd⟩
theorem Same.drain {sizes : List Int} {s0 s s1 : St} {fed : List UInt8} {k k1 : Nat} {l l1 : List It} (h : Same sizes s0 fed s k l) (hd : Drains sizes s k l1 s1 k1) (hok : s1.Ok) : Same sizes s0 fed s1 k1 (l ++ l1) :=
  ⟨hok, fun c l2 s' k' hd2 => by
    rw [List.append_assoc]
    exact h.glue _ _ _ _ (Drains.glue c h.ok hd hd2)⟩
theorem feed_nil {s : St} (h : 0 ≤ s.left) : feed s [] = s := by
  unfold Intake.feed
  split
  · rename_i hc
    simp [skipLine, ← hc.2]
  · split
    · have : min s.left ((([] : List UInt8).length : Nat) : Int) = 0 := by simp; omega
      rw [this]
      simp
    · simp
/-- At the end both told the same. -/
theorem Same.end_ {sizes : List Int} {s0 s s1 sx : St} {text : List UInt8} {k k1 kx : Nat} {l l1 lx : List It} (h : Same sizes s0 text s k l) (hd : Drains sizes s k l1 s1 k1) (hx : Drains sizes (Intake.feed s0 text) 0 lx sx kx) : lx = l ++ l1 ∧ sx = s1 := by
  have h1 := h.glue [] l1 s1 k1 (by rw [feed_nil h.ok.left.1]; exact hd)
  rw [List.append_nil] at h1
  obtain ⟨e1, e2, _⟩ := hx.det h1
  exact ⟨e1, e2⟩
end Go.Proofs.Ytoeaaomgilgncaa
