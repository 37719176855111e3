/-
  IntakeParts: how what was said is fed.
-/
import Derived.Test.YtoeaaomgilgncaaWalks10
namespace Go.Proofs.Ytoeaaomgilgncaa
open Go.RowKit Go.Mem Go.Intake
set_option linter.unusedVariables false

theorem slice_both (W : World) (A : Option Addr) (len cap l r : Nat) (hlr : l ≤ r) (hr : r ≤ cap) :
    (Instr.slice 30 (.slice A len cap) (some (.int .i64 l)) (some (.int .i64 r)) none).run Try.prog W = .ok (.slice (cutA A cap l 1) (r - l) (cap - l)) W := by
  rw [run_slice_lh (P := Try.prog) W 30 A len cap Try.underlying30 .i64 .i64 l r (by omega) (by omega) (by omega), Try.elt30.sizeOf]
  simp [Result.andThen, sliced, cutA]
theorem feed_line {s : St} (h : s.stands = 0) (b : List UInt8) : feed s b = { s with held := s.held ++ b } := by
  unfold feed
  rw [if_neg (by rw [h]; simp), if_neg (by rw [h]; decide)]

def FedPost (w : World) (p : Nat) (A : Option Addr) (s : St) (bs : List UInt8) (v : Value) (w' : World) : Prop :=
  ∃ A' cap', v = .tuple #[] ∧ IsIn w' p A' cap' { s with held := s.held ++ bs } ∧ Mod (foot p A) w w' ∧ ∀ k, InB A' k → InB A k ∨ w.heap.size ≤ k

structure FS (w : World) (p : Nat) (A : Option Addr) (s : St) (l : List UInt8) (w1 : World) (A1 : Option Addr) (cap1 : Nat) : Prop where
  inn : IsIn w1 p A1 cap1 { s with held := s.held ++ l }
  mod : Mod (foot p A) w w1
  new : ∀ k, InB A1 k → InB A k ∨ w.heap.size ≤ k
theorem FS.start {w : World} {p : Nat} {A : Option Addr} {cap : Nat} {s : St} (h : IsIn w p A cap s) : FS w p A s [] w A cap :=
  ⟨by rw [List.append_nil]; exact h, Mod.refl _ _, fun k hk => .inl hk⟩
theorem FS.rd {w w1 : World} {p : Nat} {A A1 Ab Ac : Option Addr} {s : St} {l b : List UInt8} {cap1 n cb : Nat} (h : FS w p A s l w1 A1 cap1) (hb : RdB w Ac n cb b) (hc : ∀ k, InB Ac k → InB Ab k) (hab : ∀ k, InB Ab k → k < w.heap.size ∧ ¬ foot p A k) :
    RdB w1 Ac n cb b ∧ ¬ InB Ac p :=
  ⟨hb.mod h.mod fun k hk => (hab k (hc k hk)).2, fun hk => (hab p (hc p hk)).2 (.inl rfl)⟩
theorem FS.step {w w1 w2 : World} {p : Nat} {A A1 : Option Addr} {s : St} {l b : List UInt8} {cap1 : Nat} {v : Value} (h : FS w p A s l w1 A1 cap1) (h0 : s.stands = 0) (x : FeedPost w1 p A1 { s with held := s.held ++ l } b v w2) :
    v = .tuple #[] ∧ ∃ A2 cap2, FS w p A s (l ++ b) w2 A2 cap2 := by
  obtain ⟨A2, cap2, rfl, hin, hm, hA⟩ := x
  refine ⟨rfl, A2, cap2, ?_, h.mod.trans' hm fun i hi hf => ?_, fun k hk => ?_⟩
  · have := hin
    rw [feed_line (by exact h0)] at this
    simp only [List.append_assoc] at this
    exact this
  · rcases hf with rfl | hf
    · exact .inl rfl
    · rcases h.new i hf with hf | hf
      · exact .inr hf
      · omega
  · rcases hA k hk with hk | hk
    · exact h.new k hk
    · exact .inr (Nat.le_trans h.mod.size hk)

set_option maxRecDepth 100000 in
set_option maxHeartbeats 1000000 in
theorem fed_calls (w : World) (p : Nat) (A : Option Addr) (cap : Nat) (s : St) (h : IsIn w p A cap s) (h0 : s.stands = 0) (Ab : Option Addr) (n cb : Nat) (bs : List UInt8) (hb : RdB w Ab n cb bs)
    (hab : ∀ k, InB Ab k → k < w.heap.size ∧ ¬ foot p A k) (at_ : Int) (hat : -9223372036854775808 ≤ at_ ∧ at_ ≤ 9223372036854775807) (hsz : s.held.length + n ≤ 140737488355328) :
    Calls Try.prog 23 #[.pointer (some ⟨p, 0, none⟩), .slice Ab n cb, .int .i64 at_] w (Gives (FedPost w p A s bs)) := by
  have hn := hb.blen
  have hle := hb.le
  have hmx := hb.max
  simp only [maxLen] at hmx
  obtain ⟨h1, h2⟩ := among_range at_ (n + 1) (by omega)
  obtain ⟨k, hk⟩ := Int.eq_ofNat_of_zero_le h1
  have hkn : k ≤ n := by omega
  have hq : (k : Int).tdiv 2 = ((k / 2 : Nat) : Int) := by rw [Int.tdiv_eq_ediv_of_nonneg (by omega)]; omega
  have hm2 : k / 2 ≤ k := Nat.div_le_self _ _
  generalize hmm : k / 2 = m at hq hm2
  have hs1 := fun W => slice_hi W Ab n cb m (by omega)
  have hs2 := fun W => slice_both W Ab n cb m k (by omega) (by omega)
  have hs3 := fun W => slice_lo W Ab n cb k (by omega)
  have hr1 := hb.bcut 0 m (by omega) (by omega)
  have hr2 := hb.bcut m k (by omega) (by omega)
  have hr3 := hb.bcut k n (by omega) (by omega)
  simp only [cutA_zero, List.drop_zero, Nat.sub_zero] at hr1
  have hall : bs.take m ++ (bs.drop m).take (k - m) ++ (bs.drop k).take (n - k) = bs := by
    rw [List.take_of_length_le (l := bs.drop k) (by rw [List.length_drop]; omega), List.append_assoc]
    conv => rhs; rw [← List.take_append_drop m bs]
    congr 1
    conv => rhs; rw [← List.take_append_drop (k - m) (bs.drop m)]
    rw [List.drop_drop, show m + (k - m) = k from by omega]
  have H := Lib.hid (And.intro h (And.intro hr1 (And.intro hr2 (And.intro hr3 (And.intro hab (And.intro hall hn))))))
  clear h hb hr1 hr2 hr3 hab hall hn
  go_enter Try.func23, Try.ntmps23
  go_wp2_with fail
  with_reducible refine (among_calls w at_ (n + 1) hat (by omega)).mono ?_
  rintro e w' ⟨rfl, rfl⟩
  rw [hk]
  have HF := Lib.hid (FS.start H.out.1)
  go_wp2_with fail
  have hx := HF.out.rd H.out.2.1 (fun _ h => h) H.out.2.2.2.2.1
  with_reducible refine (Feed_calls w p A cap _ HF.out.inn Ab m cb _ hx.1 (fun _ => hx.2) (by simp; omega)).mono ?_
  rintro e w1 ⟨v, rfl, hx⟩
  obtain ⟨rfl, A1, cap1, HF1⟩ := HF.out.step h0 hx
  clear hx HF
  have HF := Lib.hid HF1
  clear HF1
  go_wp2_with fail
  have hx := HF.out.rd H.out.2.2.1 (fun _ h => cutA_in h) H.out.2.2.2.2.1
  with_reducible refine (Feed_calls w1 p A1 cap1 _ HF.out.inn _ _ _ _ hx.1 (fun _ => hx.2) (by simp; omega)).mono ?_
  rintro e w2 ⟨v, rfl, hx⟩
  obtain ⟨rfl, A2, cap2, HF1⟩ := HF.out.step h0 hx
  clear hx HF
  have HF := Lib.hid HF1
  clear HF1
  go_wp2_with fail
  have hx := HF.out.rd H.out.2.2.2.1 (fun _ h => cutA_in h) H.out.2.2.2.2.1
  with_reducible refine (Feed_calls w2 p A2 cap2 _ HF.out.inn _ _ _ _ hx.1 (fun _ => hx.2) (by simp; omega)).mono ?_
  rintro e w3 ⟨v, rfl, hx⟩
  obtain ⟨rfl, A3, cap3, HF1⟩ := HF.out.step h0 hx
  clear hx HF
  rw [List.nil_append, H.out.2.2.2.2.2.1] at HF1
  have HF := Lib.hid HF1
  clear HF1
  go_wp2_with fail
  go_end0
  exact Gives.mk ⟨A3, cap3, rfl, HF.out.inn, HF.out.mod, HF.out.new⟩
end Go.Proofs.Ytoeaaomgilgncaa
