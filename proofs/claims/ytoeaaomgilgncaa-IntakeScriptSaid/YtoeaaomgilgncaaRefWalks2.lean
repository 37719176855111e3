/-
  IntakeScript: the walks of the document's intake: end, takes, again, Body, Clone; an intake as a thing that stands apart.
-/
import Derived.Test.YtoeaaomgilgncaaRefWalks1
import Derived.Test.YtoeaaomgilgncaaWalks7
import Derived.WalkMore
import Derived.Deep.RegionLaw
import Derived.BigQuiet
namespace Go.Proofs.Ytoeaaomgilgncaa
open Go.RowKit Go.Mem Go.Intake
set_option linter.unusedVariables false

/-- An intake, the document's intake, bytes: as things that stand apart. -/
def aI (p : Nat) (s : St) : Ast where
  holds w S := ∃ A cap, IsIn w p A cap s ∧ ∀ k, S k ↔ foot p A k
  lt h k hk := by obtain ⟨A, cap, h1, h2⟩ := h; exact h1.lt k ((h2 k).1 hk)
  mod h hm hn := by obtain ⟨A, cap, h1, h2⟩ := h; exact ⟨A, cap, h1.mod hm fun k hk => hn k ((h2 k).2 hk), h2⟩
def aR (p : Nat) (r : RS) : Ast where
  holds w S := ∃ A cap, RIn w p A cap r ∧ ∀ k, S k ↔ foot p A k
  lt h k hk := by obtain ⟨A, cap, h1, h2⟩ := h; exact h1.lt k ((h2 k).1 hk)
  mod h hm hn := by obtain ⟨A, cap, h1, h2⟩ := h; exact ⟨A, cap, h1.mod hm fun k hk => hn k ((h2 k).2 hk), h2⟩
abbrev aB (A : Option Addr) (n cap : Nat) (l : List UInt8) : Ast := aOwn 5 1 A n cap (bc l)
section
variable {w0 w : World} {p : Nat} {s : St} {r : RS} {R : List Ast}
theorem foot_new {A A' : Option Addr} {p k n : Nat} (hA : ∀ k, InB A' k → InB A k ∨ n ≤ k) (hk : foot p A' k) : foot p A k ∨ n ≤ k := by
  rcases hk with hk | hk
  · exact .inl (.inl hk)
  · exact (hA k hk).imp_left .inr
theorem Holds.ain (h : Holds w0 w (aI p s :: R)) : ∃ A cap, IsIn w p A cap s ∧ (∀ k, foot p A k → w0.heap.size ≤ k ∧ k < w.heap.size) ∧
    ∀ w' A' cap' s', IsIn w' p A' cap' s' → Mod (foot p A) w w' → (∀ k, InB A' k → InB A k ∨ w.heap.size ≤ k) → Holds w0 w' (aI p s' :: R) := by
  obtain ⟨S, ⟨A, cap, h1, h2⟩, h3, h4⟩ := h.step1
  refine ⟨A, cap, h1, fun k hk => h3 k ((h2 k).2 hk), fun w' A' cap' s' hi hm hA => h4 (Q := aI p s') (S' := foot p A') ⟨A', cap', hi, fun _ => Iff.rfl⟩ (hm.mono fun k _ hk => (h2 k).2 hk) fun k hk => ?_⟩
  exact (foot_new hA hk).imp_left (h2 k).2
theorem Holds.rin (h : Holds w0 w (aR p r :: R)) : ∃ A cap, RIn w p A cap r ∧ (∀ k, foot p A k → w0.heap.size ≤ k ∧ k < w.heap.size) ∧
    ∀ w' A' cap' r', RIn w' p A' cap' r' → Mod (foot p A) w w' → (∀ k, InB A' k → InB A k ∨ w.heap.size ≤ k) → Holds w0 w' (aR p r' :: R) := by
  obtain ⟨S, ⟨A, cap, h1, h2⟩, h3, h4⟩ := h.step1
  refine ⟨A, cap, h1, fun k hk => h3 k ((h2 k).2 hk), fun w' A' cap' r' hi hm hA => h4 (Q := aR p r') (S' := foot p A') ⟨A', cap', hi, fun _ => Iff.rfl⟩ (hm.mono fun k _ hk => (h2 k).2 hk) fun k hk => ?_⟩
  exact (foot_new hA hk).imp_left (h2 k).2
/-- One thing becomes itself, turned, and new bytes. -/
theorem Holds.step_new {P Q : Ast} {w' : World} {S S' : Nat → Prop} {A : Option Addr} {n cap : Nat} {l : List UInt8} (h : Holds w0 w (P :: R)) (hst : ∀ {w' : World} {l' : List Ast} {S' : Nat → Prop}, Sep w' l' S' → Mod S w w' → (∀ k, S' k → S k ∨ w.heap.size ≤ k) → Holds w0 w' (l' ++ R))
    (hq : Q.holds w' S') (hm : Mod S w w') (hS : ∀ k, S' k → S k ∨ w.heap.size ≤ k) (ho : OwnB w' 5 A n cap l) (hA : ∀ k, InB A k → w.heap.size ≤ k ∧ ¬ S' k) : Holds w0 w' (aB A n cap l :: Q :: R) := by
  refine hst (w' := w') (l' := [aB A n cap l, Q]) (S' := fun k => InB A k ∨ S' k) ⟨InB A, S', ⟨ho, fun _ => Iff.rfl⟩, ⟨S', fun _ => False, hq, trivial, fun _ _ h => h, fun _ h => h, fun _ h => h.elim⟩, fun k hk => (hA k hk).2, fun _ h => .inl h, fun _ h => .inr h⟩ hm fun k hk => ?_
  rcases hk with hk | hk
  · exact .inr (hA k hk).1
  · exact hS k hk
theorem Holds.ain2 (h : Holds w0 w (aI p s :: R)) : ∃ A cap, IsIn w p A cap s ∧ (∀ k, foot p A k → w0.heap.size ≤ k ∧ k < w.heap.size) ∧
    ∀ w' A' cap' s' Ab nb cb l, IsIn w' p A' cap' s' → Mod (foot p A) w w' → (∀ k, InB A' k → InB A k ∨ w.heap.size ≤ k) → OwnB w' 5 Ab nb cb l → (∀ k, InB Ab k → w.heap.size ≤ k ∧ ¬ InB A' k) → Holds w0 w' (aB Ab nb cb l :: aI p s' :: R) := by
  obtain ⟨S, hs, h3, h4⟩ := Holds.step (l := [aI p s]) h
  obtain ⟨S1, _, ⟨A, cap, h1, h2⟩, _, _, h5, _⟩ := hs
  refine ⟨A, cap, h1, fun k hk => h3 k (h5 k ((h2 k).2 hk)), fun w' A' cap' s' Ab nb cb l hi hm hA ho hn => ?_⟩
  refine Holds.step_new h h4 (Q := aI p s') (S' := foot p A') ⟨A', cap', hi, fun _ => Iff.rfl⟩ (hm.mono fun k _ hk => h5 k ((h2 k).2 hk)) (fun k hk => (foot_new hA hk).imp_left fun hk => h5 k ((h2 k).2 hk)) ho fun k hk => ⟨(hn k hk).1, fun hf => ?_⟩
  rcases hf with hf | hf
  · have := h1.blk.lt
    have := (hn k hk).1
    omega
  · exact (hn k hk).2 hf
theorem Holds.rin2 (h : Holds w0 w (aR p r :: R)) : ∃ A cap, RIn w p A cap r ∧ (∀ k, foot p A k → w0.heap.size ≤ k ∧ k < w.heap.size) ∧
    ∀ w' A' cap' r' Ab nb cb l, RIn w' p A' cap' r' → Mod (foot p A) w w' → (∀ k, InB A' k → InB A k ∨ w.heap.size ≤ k) → OwnB w' 5 Ab nb cb l → (∀ k, InB Ab k → w.heap.size ≤ k ∧ ¬ InB A' k) → Holds w0 w' (aB Ab nb cb l :: aR p r' :: R) := by
  obtain ⟨S, hs, h3, h4⟩ := Holds.step (l := [aR p r]) h
  obtain ⟨S1, _, ⟨A, cap, h1, h2⟩, _, _, h5, _⟩ := hs
  refine ⟨A, cap, h1, fun k hk => h3 k (h5 k ((h2 k).2 hk)), fun w' A' cap' r' Ab nb cb l hi hm hA ho hn => ?_⟩
  refine Holds.step_new h h4 (Q := aR p r') (S' := foot p A') ⟨A', cap', hi, fun _ => Iff.rfl⟩ (hm.mono fun k _ hk => h5 k ((h2 k).2 hk)) (fun k hk => (foot_new hA hk).imp_left fun hk => h5 k ((h2 k).2 hk)) ho fun k hk => ⟨(hn k hk).1, fun hf => ?_⟩
  rcases hf with hf | hf
  · have := h1.blk.lt
    have := (hn k hk).1
    omega
  · exact (hn k hk).2 hf
end

theorem find_take_lt {l : List UInt8} {m k : Nat} (hk : k < m) (h : l[k]? = some 13 ∧ l[k + 1]? = some 10) (hk1 : k + 1 < m) : (l.take m)[k]? = some 13 ∧ (l.take m)[k + 1]? = some 10 := by
  rw [List.getElem?_take, List.getElem?_take, if_pos hk, if_pos hk1]
  exact h
theorem find_take_not {l : List UInt8} {m j : Nat} (h : ¬ (l[j]? = some 13 ∧ l[j + 1]? = some 10)) : ¬ ((l.take m)[j]? = some 13 ∧ (l.take m)[j + 1]? = some 10) := by
  rintro ⟨h1, h2⟩
  rw [List.getElem?_take] at h1 h2
  split at h1
  · split at h2
    · exact h ⟨h1, h2⟩
    · cases h2
  · cases h1
def endAt (l : List UInt8) (m : Nat) : Int := match find (l.take m) with | some k => k | none => -1
set_option maxRecDepth 100000 in
theorem end_calls (w : World) (A : Option Addr) (n cap : Nat) (l : List UInt8) (hr : RdB w A n cap l) :
    Calls Try.prog 44 #[.slice A n cap, .int .i64 224] w fun e w' => e = .returned (.int .i64 (endAt l 224)) ∧ w = w' := by
  have hn := hr.blen
  have hle := hr.le
  have hmx := hr.max
  unfold maxLen at hmx
  have HL := Lib.hid (And.intro hr hn)
  clear hr hn
  go_enter Try.func44, Try.ntmps44
  go_wp2
  go_loopg [5] n (fun g i wr => wr = w ∧ ∃ k : Nat, k ≤ n ∧ g = n - k ∧ i = .int .i64 k ∧ k < 224 ∧ Hid (∀ j, j < k → ¬ (l[j]? = some 13 ∧ l[j + 1]? = some 10)))
  case atStart => exact ⟨rfl, 0, by omega, by omega, rfl, by omega, fun j hj => absurd hj (Nat.not_lt_zero _)⟩
  case round =>
    obtain ⟨rfl, k, hk, rfl, rfl, hk2, HN⟩ := hrel
    by_cases hlt : k + 1 < n
    · have hn := HL.out.2
      obtain ⟨g, off, rfl, hg, hc⟩ := HL.out.1.byte (by omega)
      have hc0 := hc k (by omega)
      have hc1 := hc (k + 1) (by omega)
      have hb0 : l[k]? = some l[k] := List.getElem?_eq_getElem (by omega)
      have hb1 : l[k + 1]? = some l[k + 1] := List.getElem?_eq_getElem (by omega)
      clear hc
      generalize l[k] = c0 at hc0 hb0
      generalize l[k + 1] = c1 at hc1 hb1
      clear hn
      have HB := Lib.hid (And.intro hb0 hb1)
      clear hb0 hb1
      by_cases h4 : k + 1 < 224
      · go_wp2
        · go_ret
          have h1 : (c0.toNat : Int) = 13 := by assumption
          have h2 : ((c1.toNat : Int) == 10) = true := by assumption
          have e0 : c0 = 13 := eq_of_beq ((u8_beq c0 13).symm.trans (beq_iff_eq.2 h1))
          have e1 : c1 = 10 := eq_of_beq ((u8_beq c1 10).symm.trans h2)
          have hf := find_is (l := l.take 224) (k := k) (find_take_lt (by omega) ⟨by rw [HB.out.1, e0], by rw [HB.out.2, e1]⟩ (by omega)) fun j hj => find_take_not (HN.out j hj)
          refine ⟨?_, rfl⟩
          unfold endAt
          rw [hf]
          rfl
        all_goals
          go_roundg (n - (k + 1))
          case measure => omega
          case rel =>
            refine ⟨rfl, k + 1, by omega, rfl, by go_num, by omega, fun j hj => ?_⟩
            rcases Nat.lt_or_ge j k with h | h
            · exact HN.out j h
            · obtain rfl : j = k := by omega
              rintro ⟨h3, h4⟩
              rw [HB.out.1] at h3
              rw [HB.out.2] at h4
              simp only [Option.some.injEq] at h3 h4
              first
              | (have hx : ((c1.toNat : Int) == 10) = false := by assumption
                 rw [h4] at hx
                 exact absurd hx (by decide))
              | (have hx : ¬ (c0.toNat : Int) = 13 := by assumption
                 rw [h3] at hx
                 exact absurd rfl hx)
      · have hd : decide ((k : Int) + 1 < 224) = false := by simp; omega
        go_wp2
        go_ret
        refine ⟨?_, rfl⟩
        have hf := find_not (l := l.take 224) fun j hj => find_take_not (HN.out j (by rw [List.length_take] at hj; omega))
        unfold endAt
        rw [hf]
        rfl
    · have hd : decide ((k : Int) + 1 < (n : Int)) = false := by simp; omega
      go_wp2
      go_ret
      refine ⟨?_, rfl⟩
      have hf := find_not (l := l.take 224) fun j hj => find_take_not (HN.out j (by rw [List.length_take, HL.out.2] at hj; omega))
      unfold endAt
      rw [hf]
      rfl

/-- 's[:n]' and 's[n:]' of an intake's bytes, copied. -/
def TakesPost (w : World) (p : Nat) (r : RS) (n : Nat) (v : Value) (w' : World) : Prop :=
  ∃ Ao co A' cap', v = .slice Ao n co ∧ OwnB w' 5 Ao n co (r.held.take n) ∧ RIn w' p A' cap' { r with held := r.held.drop n } ∧ Mod (fun k => k = p) w w' ∧ (∀ k, InB A' k → w.heap.size ≤ k) ∧ (∀ k, InB Ao k → w.heap.size ≤ k ∧ ¬ InB A' k)
set_option maxRecDepth 100000 in
set_option maxHeartbeats 1000000 in
theorem takes_calls (w : World) (p : Nat) (A : Option Addr) (cap : Nat) (r : RS) (h : RIn w p A cap r) (n : Nat) (hn : n ≤ r.held.length) (hsz : r.held.length ≤ 140737488355328) :
    Calls Try.prog 45 #[.pointer (some ⟨p, 0, none⟩), .int .i64 n] w (Gives (TakesPost w p r n)) := by
  obtain ⟨_, _, c2, _⟩ := h.cells
  have f2 := h.frozen 2
  have hle := h.own.le
  have hmx := h.own.max
  have hplt := h.blk.lt
  unfold maxLen at hmx
  have hs1 := fun W => slice_hi W A r.held.length cap n (by omega)
  have hs2 := fun W => slice_lo W A r.held.length cap n hn
  have hr1 : RdB w A n cap (r.held.take n) := by
    have := h.own.rd.bcut 0 n (by omega) hn
    simpa using this
  have hr2 : RdB w (cutA A cap n 1) (r.held.length - n) (cap - n) (r.held.drop n) := by
    have := h.own.rd.bcut n r.held.length hn (Nat.le_refl _)
    rwa [List.take_of_length_le (by rw [List.length_drop]; exact Nat.le_refl _)] at this
  have H := Lib.hid (And.intro h (And.intro hr1 hr2))
  clear h hr1 hr2
  go_enter Try.func45, Try.ntmps45
  go_wp2_with (at_builtin; refine wpList_append _ rfl (.tmp 7) (.tmp 13) 30 30 rfl Try.elt30 none 0 0 (bc []) rfl (Own.nil _ _ _) (.slice A n cap) n (bc (r.held.take n)) rfl (Rd.src H.out.2.1 Try.underlying30 (bc_one _)) ?h63 ?hby ?_)
  case h63 => unfold maxLen; omega
  case hby => omega
  intro A1 cap1 w1 ho1 hm1 hin1 _
  have hmf : Mod (fun _ => False) w w1 := hm1.mono fun i _ hi => by simp at hi
  have c2' := hmf.cell c2 id
  have hr2 := H.out.2.2.mod hmf fun _ _ h => h
  have hA1 : ∀ k, InB A1 k → w.heap.size ≤ k := fun k hk => by simpa using hin1 k hk
  have H1 := Lib.hid (And.intro ho1 (And.intro hmf (And.intro hr2 hA1)))
  clear ho1 hm1 hin1 hmf hr2 hA1 c2
  go_wp2_with (at_builtin; refine wpList_append _ rfl (.tmp 15) (.tmp 21) 30 30 rfl Try.elt30 none 0 0 (bc []) rfl (Own.nil _ _ _) (.slice (cutA A cap n 1) (r.held.length - n) (cap - n)) (r.held.length - n) (bc (r.held.drop n)) rfl (Rd.src H1.out.2.2.1 Try.underlying30 (bc_one _)) ?h63 ?hby ?_)
  case h63 => unfold maxLen; omega
  case hby => omega
  intro A2 cap2 w2 ho2 hm2 hin2 _
  have hmf : Mod (fun _ => False) w1 w2 := hm2.mono fun i _ hi => by simp at hi
  have hI2 := H.out.1.mod (H1.out.2.1.trans hmf) fun _ _ h => h
  have hA2 : ∀ k, InB A2 k → w1.heap.size ≤ k := fun k hk => by simpa using hin2 k hk
  have hs1 := H1.out.2.1.size
  have hdl : (r.held.drop n).length = r.held.length - n := List.length_drop
  have hfin := hI2.held_ (W := w2) (S := fun _ => False) (A' := A2) (cap' := cap2) (l := r.held.drop n) (Mod.refl _ _) id (by rw [hdl]; simpa using ho2) fun hf => by have := hA2 p hf; omega
  rw [hdl] at hfin
  have ho1 := H1.out.1.mod hmf fun _ _ h => h
  replace ho1 : OwnB w2 5 A1 n cap1 (r.held.take n) := by simpa using ho1
  have hmw := (H1.out.2.1.trans hmf)
  have HF := Lib.hid (And.intro hfin (And.intro ho1 (And.intro (hmw.mono (S' := fun k => k = p) fun _ _ h => h.elim) (And.intro (fun k hk => Nat.le_trans hs1 (hA2 k hk)) (fun k hk => (⟨H1.out.2.2.2 k hk, fun hk2 => by have := H1.out.1.lt k hk; have := hA2 k hk2; omega⟩ : w.heap.size ≤ k ∧ ¬ InB A2 k))))))
  have c2 := hI2.cells.2.2.1
  have f2 := hI2.frozen 2
  clear ho1 ho2 hm2 hin2 hmf hI2 hA2 hfin hmw c2'
  go_wp2_with fail
  go_ret
  refine Gives.mk ?_
  obtain ⟨k1, k2, k3, k4, k5⟩ := HF.out
  exact ⟨A1, cap1, A2, cap2, rfl, k2.setCell _ _ fun hf => by have := (k5 p hf).1; omega, k1, k3.setCell (p := ⟨p, 2, none⟩) (fun _ => rfl) _, k4, k5⟩

set_option maxRecDepth 100000 in
theorem again_calls (w : World) (p : Nat) (A : Option Addr) (cap : Nat) (r : RS) (h : RIn w p A cap r) (hsz : r.held.length ≤ 140737488355328) :
    Calls Try.prog 42 #[.pointer (some ⟨p, 0, none⟩)] w (Gives fun v w' => v = .tuple #[] ∧ RPost w p A (rfeed { r with held := [] } r.held) w') := by
  obtain ⟨_, _, c2, _⟩ := h.cells
  have f2 := h.frozen 2
  have H := Lib.hid h
  clear h
  go_enter Try.func42, Try.ntmps42
  go_wp2_with fail
  have h1 := H.out.held_ (W := w) (S := fun _ => False) (A' := none) (cap' := 0) (l := []) (Mod.refl _ _) id (Own.nil _ _ _) (by simp)
  have hmp := Mod.set w p 2 (.slice none 0 0)
  have hr := H.out.own.rd.mod hmp fun k hk e => H.out.apart (e ▸ hk)
  refine at_world fun W hW => ?_
  have hWe : W = w.setCell ⟨p, 2, none⟩ (.slice none 0 0) := hW
  have h1' : RIn W p none 0 { r with held := [] } := by rw [hWe]; exact h1
  rw [← hWe] at hmp hr
  clear h1 hWe hW
  with_reducible refine (RFeed_calls W p none 0 { r with held := [] } h1' A r.held.length cap r.held hr (fun _ k hk => ⟨?_, ?_⟩) (by simp; omega)).mono ?_
  · have := H.out.own.lt k hk
    have := hmp.size
    omega
  · rintro (rfl | hf)
    · exact H.out.apart hk
    · simp at hf
  rintro e w' ⟨v, rfl, rfl, A', cap', hin, hm, hA⟩
  have HF : Hid (RPost w p A (rfeed { r with held := [] } r.held) w') := ⟨A', cap', hin, (hmp.mono (S' := foot p A) fun i _ e => .inl e).trans' hm fun i hi hf => by
    rcases hf with rfl | hf
    · exact .inl rfl
    · simp at hf, fun k hk => by
    rcases hA k hk with hf | hf
    · simp at hf
    · have := hmp.size
      exact .inr (by omega)⟩
  clear hin hm hA
  go_wp2_with fail
  go_end0
  exact Gives.mk ⟨rfl, HF.out⟩
end Go.Proofs.Ytoeaaomgilgncaa
