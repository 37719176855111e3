/-
  The walks of package intake, further: slices.Clone, body, Body, Clone.
-/
import Derived.Test.YtoeaaomgilgncaaWalks2
namespace Go.Proofs.Ytoeaaomgilgncaa
open Go.RowKit Go.Mem Go.Intake
set_option linter.unusedVariables false

/-! ### slices.Clone -/
def SClonePost (w : World) (A : Option Addr) (n : Nat) (bs : List UInt8) (v : Value) (w' : World) : Prop :=
  ∃ A' cap', v = .slice A' n cap' ∧ OwnB w' 5 A' n cap' bs ∧ Mod (fun _ => False) w w' ∧ (∀ k, InB A' k → w.heap.size ≤ k) ∧ (A' = none ↔ A = none)
theorem SClone_calls (w : World) (A : Option Addr) (n cap : Nat) (bs : List UInt8) (hr : RdB w A n cap bs) (hsz : n ≤ 140737488355328) : Calls Try.prog 40 #[.slice A n cap] w (Gives (SClonePost w A n bs)) := by
  have hle := hr.le
  have he := fun W => Lib.run_eql_slice_nil (P := Try.prog) W 30 5 A n cap 0 0 Try.underlying30
  cases A with
  | none =>
    have h0 := hr.2.2.2.1 rfl
    subst h0
    obtain rfl : n = 0 := by omega
    have hb : bs = [] := List.eq_nil_of_length_eq_zero (by simpa using hr.blen)
    subst hb
    clear hr hle
    go_enter Try.func40, Try.ntmps40
    go_wp2
    go_ret
    exact Gives.mk ⟨none, 0, rfl, Own.nil _ _ _, Mod.refl _ _, fun k hk => by simp at hk, by simp⟩
  | some a =>
    have ho : Own (w.alloc (.cells #[] 5)) 5 1 (some ⟨w.heap.size, 0, none⟩) 0 0 [] := ⟨rfl, Nat.le_refl _, by simp [maxLen], .inr ⟨_, 0, [], rfl, Blk.new w [] 5, by simp, by simp⟩⟩
    have hr1 := hr.mod ((Mod.refl (fun _ => False) w).alloc (.cells #[] 5)) fun _ _ => id
    have HR := Lib.hid hr
    clear hr
    go_enter Try.func40, Try.ntmps40
    go_wp2_with (at_builtin; refine wpList_append _ rfl (.tmp 5) (.tmp 6) 30 30 rfl Try.elt30 _ 0 0 [] rfl ho _ n (bc bs) rfl (Rd.src hr1 Try.underlying30 (bc_one _)) ?h63 ?hby ?_)
    case h63 => unfold maxLen; omega
    case hby => omega
    intro A' cap' w2 ho2 hmod2 hin2 hnone
    have H := Lib.hid (And.intro hmod2 (And.intro hin2 hnone))
    clear hmod2 hin2 hnone
    go_wp2
    go_ret
    obtain ⟨hmod2, hin2, hnone⟩ := H.out
    refine Gives.mk ?_
    unfold SClonePost
    refine ⟨A', cap', by simp, by simpa using ho2, ?_, ?_, ?_⟩
    · exact ((Mod.refl _ w).alloc _).trans' hmod2 fun i hi hk => by simp at hk; omega
    · intro k hk
      have := hin2 k hk
      omega
    · simp [hnone]

/-! ### body -/
/-- An item's cells. -/
def itemOf (b : List UInt8) (sz : Int) : It :=
  if b[sz.toNat]? = some 13 ∧ b[sz.toNat + 1]? = some 10 then item 3 [] (b.take sz.toNat) else item 5 [] []
/-- An item in memory: its three cells. -/
def ItemCells (w : World) (B : Nat) (it : It) (kv tv bv : Value) : Prop :=
  kv = .int .i64 it.kind ∧ tv = .string ⟨it.text.toArray⟩ ∧ ∃ A n cap, bv = .slice A n cap ∧ OwnB w 5 A n cap it.body ∧ ∀ k, InB A k → B ≤ k
def BodyItemPost (w : World) (b : List UInt8) (sz : Nat) (v : Value) (w' : World) : Prop :=
  ∃ kv tv bv, v = .agg #[kv, tv, bv] ∧ ItemCells w' w.heap.size (itemOf b sz) kv tv bv ∧ Mod (fun _ => False) w w'
theorem bodyItem_calls (w : World) (A : Option Addr) (n cap : Nat) (b : List UInt8) (hr : RdB w A (n + 2) cap b) (hsz : n ≤ 140737488355328) : Calls Try.prog 39 #[.slice A (n + 2) cap] w (Gives (BodyItemPost w b n)) := by
  have hle := hr.le
  have hbl := hr.blen
  obtain ⟨g, off, rfl, hg, hc⟩ := hr.byte (by omega)
  have hc0 := hc n (by omega)
  have hc1 := hc (n + 1) (by omega)
  clear hc
  have hx0 : b[n]? = some b[n] := List.getElem?_eq_getElem (by omega)
  have hx1 : b[n + 1]? = some b[n + 1] := List.getElem?_eq_getElem (by omega)
  generalize b[n] = x0 at hc0 hx0
  generalize b[n + 1] = x1 at hc1 hx1
  have hs1 := fun W => slice_hi W (some ⟨g, off, none⟩) (n + 2) cap n (by omega)
  have H := Lib.hid (And.intro hr (And.intro hx0 hx1))
  clear hr hbl hx0 hx1
  go_enter Try.func39, Try.ntmps39
  go_wp2_with fail
  · -- no LF
    rename_i h1 h2
    refine bodyPost_ret (v := .agg #[.int .i64 5, .string ⟨#[]⟩, .slice none 0 0]) (by simp [results, Try.results39, go_sem]) rfl (Gives.mk ?_)
    have e : itemOf b n = item 5 [] [] := by
      unfold itemOf
      rw [if_neg]
      rintro ⟨_, h⟩
      rw [Int.toNat_natCast, H.out.2.2] at h
      simp only [Option.some.injEq] at h
      subst h
      exact absurd h2 (by decide)
    unfold BodyItemPost
    rw [e]
    exact ⟨_, _, _, rfl, ⟨rfl, rfl, none, 0, 0, rfl, Own.nil _ _ _, fun k hk => by simp at hk⟩, (Mod.refl _ w).alloc _⟩
  · -- whole
    have h1 : (x0.toNat : Int) = 13 := by assumption
    have h2 : ((x1.toNat : Int) != 10) = false := by assumption
    have hr2 : RdB (w.alloc (.cells #[.int .i64 0, .string ⟨#[]⟩, .slice none 0 0] 54)) (some ⟨g, off, none⟩) n cap (b.take n) := by
      have := H.out.1.bcut 0 n (Nat.zero_le _) (by omega)
      simp only [cutA_zero, List.drop_zero, Nat.sub_zero] at this
      exact Rd.mod this ((Mod.refl (fun _ => False) w).alloc _) fun _ _ => id
    have e : itemOf b n = item 3 [] (b.take n) := by
      unfold itemOf
      rw [if_pos, Int.toNat_natCast]
      rw [Int.toNat_natCast, H.out.2.1, H.out.2.2]
      exact ⟨by rw [eq_of_beq ((u8_beq x0 13).symm.trans (beq_iff_eq.2 h1))], by rw [eq_of_beq ((u8_beq x1 10).symm.trans (beq_iff_eq.2 (by simpa using h2)))]⟩
    have HE := Lib.hid e
    have HR := Lib.hid hr2
    clear e hr2
    refine (SClone_calls _ _ _ _ _ HR.out hsz).mono ?_
    rintro e w1 ⟨v, rfl, A', cap', rfl, ho, hmod, hin, -⟩
    have hb1 := (Blk.new w [.int .i64 0, .string ⟨#[]⟩, .slice none 0 0] 54).mod hmod (fun h => h)
    have k0 := hb1.cell 0
    have k1 := hb1.cell 1
    have k2 := hb1.cell 2
    have f0 := hb1.frozen 0 (by simp [InCells])
    have f1 := hb1.frozen 1 (by simp [InCells])
    have f2 := hb1.frozen 2 (by simp [InCells])
    simp only [List.getElem?_cons_zero, List.getElem?_cons_succ] at k0 k1 k2
    have H2 := Lib.hid (And.intro ho (And.intro hmod (And.intro hin hb1)))
    clear ho hmod hin hb1 hc0 hc1
    go_wp2
    have q0 := H2.out.2.2.2.lt
    refine bodyPost_ret (v := .agg #[.int .i64 3, .string ⟨#[]⟩, .slice A' n cap']) (by simp [results, Try.results39, go_sem, k0, k1, k2, q0]) rfl (Gives.mk ?_)
    obtain ⟨ho, hmod, hin, hb1⟩ := H2.out
    unfold BodyItemPost
    rw [HE.out]
    have hne : ¬ InB A' w.heap.size := fun h => by
      have := hin _ h
      simp at this
      omega
    refine ⟨_, _, _, rfl, ⟨rfl, rfl, A', n, cap', rfl, ((ho.setCell _ _ hne).setCell _ _ hne).setCell _ _ hne, fun k hk => ?_⟩, ?_⟩
    · have := hin k hk
      simp at this
      omega
    · have hm := ((Mod.refl (fun _ => False) w).alloc (.cells #[.int .i64 0, .string ⟨#[]⟩, .slice none 0 0] 54)).trans hmod
      refine ((hm.setCell ?_ _).setCell ?_ _).setCell ?_ _
      all_goals exact fun h => absurd h (Nat.lt_irrefl _)
  · -- no CR
    have h1 : ¬ (x0.toNat : Int) = 13 := by assumption
    refine bodyPost_ret (v := .agg #[.int .i64 5, .string ⟨#[]⟩, .slice none 0 0]) (by simp [results, Try.results39, go_sem]) rfl (Gives.mk ?_)
    have e : itemOf b n = item 5 [] [] := by
      unfold itemOf
      rw [if_neg]
      rintro ⟨h, _⟩
      rw [Int.toNat_natCast, H.out.2.1] at h
      simp only [Option.some.injEq] at h
      subst h
      exact h1 rfl
    unfold BodyItemPost
    rw [e]
    exact ⟨_, _, _, rfl, ⟨rfl, rfl, none, 0, 0, rfl, Own.nil _ _ _, fun k hk => by simp at hk⟩, (Mod.refl _ w).alloc _⟩

/-! ### Body -/
def BodyPost (w : World) (p : Nat) (A : Option Addr) (s : St) (n : Int) (v : Value) (w' : World) : Prop :=
  ∃ A' cap', v = .int .i64 (body s n).2 ∧ IsIn w' p A' cap' (body s n).1 ∧ Mod (fun k => k = p) w w' ∧ ∀ k, InB A' k → InB A k
theorem Body_calls (w : World) (p : Nat) (A : Option Addr) (cap : Nat) (s : St) (h : IsIn w p A cap s) (n : Int) (hn : -9223372036854775808 ≤ n ∧ n ≤ 9223372036854775807) (hsz : s.held.length ≤ 140737488355328) :
    Calls Try.prog 26 #[.pointer (some ⟨p, 0, none⟩), .int .i64 n] w (Gives (BodyPost w p A s n)) := by
  obtain ⟨c0, c1, c2, c3, c4, _, _⟩ := h.cells
  have f1 := h.frozen 1
  have f2 := h.frozen 2
  have f3 := h.frozen 3
  have f4 := h.frozen 4
  have hst := h.ok.stands
  have hmo := h.ok.most
  by_cases hbad : n < 0 ∨ n > 4294967295 ∨ s.stands ≠ 0
  · -- refused
    have e : body s n = (s, 61) := by unfold body; rw [if_pos hbad]
    have H := Lib.hid (And.intro h e)
    clear h e
    by_cases h1 : n < 0
    · go_enter Try.func26, Try.ntmps26
      go_wp2
      go_ret
      refine Gives.mk ?_
      unfold BodyPost
      rw [H.out.2]
      exact ⟨A, cap, rfl, H.out.1, Mod.refl _ _, fun _ h => h⟩
    · by_cases h2 : n > 4294967295
      · go_enter Try.func26, Try.ntmps26
        go_wp2
        go_ret
        refine Gives.mk ?_
        unfold BodyPost
        rw [H.out.2]
        exact ⟨A, cap, rfl, H.out.1, Mod.refl _ _, fun _ h => h⟩
      · have h3 : s.stands ≠ 0 := by omega
        have h3' : (s.stands != 0) = true := by simpa using h3
        clear hbad h3
        go_enter Try.func26, Try.ntmps26
        go_wp2
        go_ret
        refine Gives.mk ?_
        unfold BodyPost
        rw [H.out.2]
        exact ⟨A, cap, rfl, H.out.1, Mod.refl _ _, fun _ h => h⟩
  · have h0 : 0 ≤ n ∧ n ≤ 4294967295 := by omega
    have h3 : s.stands = 0 := by omega
    by_cases hm : n ≤ s.most
    · have e : body s n = ({ s with stands := 2, size := n }, 0) := by unfold body; rw [if_neg hbad, if_pos hm]
      have H := Lib.hid (And.intro h e)
      rw [h3] at c1
      clear h e hbad h3
      go_enter Try.func26, Try.ntmps26
      go_wp2
      go_ret
      refine Gives.mk ?_
      unfold BodyPost
      obtain ⟨h, e⟩ := H.out
      rw [e]
      refine ⟨A, cap, rfl, ⟨?_, (h.own.setCell _ _ h.apart).setCell _ _ h.apart, ⟨h.ok.1, .inr (.inr (.inl rfl)), by simp only []; omega, h.ok.4⟩⟩, (Mod.set w p _ _).trans (Mod.set _ p _ _), fun _ h => h⟩
      have := (h.blk.store 1 (.int .i64 2)).store 3 (.int .i64 n)
      simpa [InCells] using this
    · obtain ⟨q, hq⟩ := Int.eq_ofNat_of_zero_le (a := min (n + 2) (s.held.length : Int)) (by omega)
      have e : body s n = ({ s with stands := 3, left := n + 2 - q, held := s.held.drop q }, 0) := by
        unfold body
        rw [if_neg hbad, if_neg hm]
        simp only [hq, Int.toNat_natCast]
      have hmx := h.own.max
      have hle := h.own.le
      have H := Lib.hid (And.intro h (And.intro e hq))
      rw [h3] at c1
      clear h e hbad h3 hq
      go_enter Try.func26, Try.ntmps26
      go_wp2_with fail
      have hb2 := (H.out.1.blk.store 1 (.int .i64 3)).store 4 (.int .i64 (n + 2))
      refine (skipBody_calls _ p (n + 2) A s.held.length cap q ?k4 ?k5 (by omega) (by omega) (by omega) H.out.2.2.symm).mono ?_
      case k4 =>
        rw [hb2.cell]
        simp [InCells]
      case k5 => exact hb2.frozen 4 (by simp [InCells])
      rintro e w1 ⟨rfl, rfl⟩
      have hb3 := hb2.store 4 (.int .i64 (n + 2 - q))
      have hmod := ((Mod.set w p 1 (.int .i64 3)).trans (Mod.set _ p 4 (.int .i64 (n + 2)))).trans (Mod.set _ p 4 (.int .i64 (n + 2 - q)))
      have HB := Lib.hid (And.intro hb3 hmod)
      have k2 := hb3.cell 2
      have f2 := hb3.frozen 2 (by simp [InCells])
      simp only [InCells, List.set_cons_zero, List.set_cons_succ, List.getElem?_cons_zero, List.getElem?_cons_succ] at k2
      clear hb2 hb3 hmod c0 c1 c2 c3 c4 f1 f3 f4
      generalize (((w.setCell ⟨p, 1, none⟩ (.int .i64 3)).setCell ⟨p, 4, none⟩ (.int .i64 (n + 2))).setCell ⟨p, 4, none⟩ (.int .i64 (n + 2 - q))) = w1 at HB k2 f2 ⊢
      go_wp2
      go_ret
      refine Gives.mk ?_
      unfold BodyPost
      obtain ⟨h, e, hq⟩ := H.out
      obtain ⟨hb3, hmod⟩ := HB.out
      rw [e]
      have hcut := (h.own.mod hmod fun k hk e => h.apart (e ▸ hk)).bcut q s.held.length (by omega) (Nat.le_refl _)
      rw [List.take_of_length_le (by rw [List.length_drop]; omega)] at hcut
      have hl : (s.held.drop q).length = s.held.length - q := List.length_drop
      refine ⟨cutA A cap q 1, cap - q, rfl, ⟨?_, ?_, ⟨h.ok.1, .inr (.inr (.inr rfl)), h.ok.3, by simp only []; omega⟩⟩, hmod.trans (Mod.set _ p _ _), fun k hk => cutA_in hk⟩
      · have := hb3.store 2 (.slice (cutA A cap q 1) (s.held.length - q) (cap - q))
        simpa [InCells] using this
      · simp only [hl]
        exact hcut.setCell _ _ fun hk => h.apart (cutA_in hk)

/-! ### Clone -/
def ICloneP (w : World) (s : St) (v : Value) (w' : World) : Prop :=
  ∃ q A' cap', v = .pointer (some ⟨q, 0, none⟩) ∧ IsIn w' q A' cap' s ∧ Mod (fun _ => False) w w' ∧ ∀ k, foot q A' k → w.heap.size ≤ k
theorem IClone_calls (w : World) (p : Nat) (A : Option Addr) (cap : Nat) (s : St) (h : IsIn w p A cap s) (hsz : s.held.length ≤ 140737488355328) : Calls Try.prog 27 #[.pointer (some ⟨p, 0, none⟩)] w (Gives (ICloneP w s)) := by
  obtain ⟨c0, c1, c2, c3, c4, c5, c6⟩ := h.cells
  have hlt := h.blk.lt
  have H := Lib.hid h
  clear h
  go_enter Try.func27, Try.ntmps27
  go_wp2_with fail
  have hr1 := H.out.own.rd.mod ((Mod.refl (fun _ => False) w).alloc (.cells (InCells s A cap).toArray 76)) fun _ _ => id
  refine (SClone_calls _ A s.held.length cap s.held hr1 hsz).mono ?_
  rintro e w1 ⟨v, rfl, A', cap', rfl, ho, hmod, hin, -⟩
  have hb1 := (Blk.new w (InCells s A cap) 76).mod hmod (fun h => h)
  have hm := ((Mod.refl (fun _ => False) w).alloc (.cells (InCells s A cap).toArray 76)).trans hmod
  have k2 := hb1.cell 2
  have f2 := hb1.frozen 2 (by simp [InCells])
  simp only [InCells, List.getElem?_cons_zero, List.getElem?_cons_succ] at k2
  have H2 := Lib.hid (And.intro ho (And.intro hm (And.intro hin hb1)))
  clear ho hmod hin hb1 hm hr1 c0 c1 c2 c3 c4 c5 c6
  go_wp2
  go_ret
  obtain ⟨ho, hm, hin, hb1⟩ := H2.out
  refine Gives.mk ?_
  unfold ICloneP
  have hne : ¬ InB A' w.heap.size := fun h => by
    have := hin _ h
    simp at this
    omega
  refine ⟨w.heap.size, A', cap', rfl, ⟨?_, ho.setCell _ _ hne, H.out.ok⟩, hm.setCell (fun h => absurd h (Nat.lt_irrefl _)) _, fun k hk => ?_⟩
  · have := hb1.store 2 (.slice A' s.held.length cap')
    simpa [InCells] using this
  · rcases hk with rfl | hk
    · exact Nat.le_refl _
    · have := hin k hk
      simp at this
      omega
end Go.Proofs.Ytoeaaomgilgncaa
