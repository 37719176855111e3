/-
  The walk of package intake's Next.
-/
import Derived.Test.YtoeaaomgilgncaaWalks3
import Derived.Test.YtoeaaomgilgncaaShelf
import Derived.WalkMore
import Derived.Deep.RegionHeld3
import Derived.Deep.RegionWith
import Derived.Deep.QuietTactic
import Derived.BigQuiet
import Derived.Deep.DeepCutAuto
namespace Go.Proofs.Ytoeaaomgilgncaa
open Go.RowKit Go.Mem Go.Intake
set_option linter.unusedVariables false

def NextPost (w : World) (p : Nat) (A : Option Addr) (s : St) (v : Value) (w' : World) : Prop :=
  ∃ A' cap' Ab nb cb, v = .tuple #[.agg #[.int .i64 ((next s).2.getD zeroItem).kind, .string ⟨((next s).2.getD zeroItem).text.toArray⟩, .slice Ab nb cb], .bool (next s).2.isSome] ∧ IsIn w' p A' cap' (next s).1 ∧
    OwnB w' 5 Ab nb cb ((next s).2.getD zeroItem).body ∧ (∀ k, InB Ab k → w.heap.size ≤ k ∧ ¬ InB A' k) ∧ Mod (foot p A) w w' ∧ ∀ k, InB A' k → InB A k ∨ w.heap.size ≤ k

/-- A zero item's cells; the two locals of Next. -/
def zi : List Value := [.int .i64 0, .string ⟨#[]⟩, .slice none 0 0]
structure Locals (w W : World) (l0 l1 : List Value) : Prop where
  mod : Mod (fun _ => False) w W
  b0 : Blk W w.heap.size l0 54
  b1 : Blk W (w.heap.size + 1) l1 54
theorem Locals.start (w : World) (nq : Nat) : Locals w (((w.alloc (.cells #[.int .i64 0, .string ⟨#[]⟩, .slice none 0 0] 54)).alloc (.cells #[.int .i64 0, .string ⟨#[]⟩, .slice none 0 0] 54)).drewN nq) zi zi :=
  ⟨(((Mod.refl _ w).alloc _).alloc _).drewN nq, ((Blk.new w zi 54).alloc _).drewN nq, by
    have := (Blk.new (w.alloc (.cells #[.int .i64 0, .string ⟨#[]⟩, .slice none 0 0] 54)) zi 54).drewN nq
    rw [World.size_alloc] at this
    exact this⟩

theorem IsIn.stand0 {w : World} {p : Nat} {A : Option Addr} {cap : Nat} {s : St} (h : IsIn w p A cap s) : IsIn (w.setCell ⟨p, 1, none⟩ (.int .i64 0)) p A cap { s with stands := 0 } :=
  ⟨by have := h.blk.store 1 (.int .i64 0); simpa [InCells] using this, h.own.setCell _ _ h.apart, ⟨h.ok.1, .inl rfl, h.ok.3, h.ok.4⟩⟩
theorem IsIn.far {w : World} {p : Nat} {A : Option Addr} {cap : Nat} {s : St} (h : IsIn w p A cap s) (a : Addr) (v : Value) (hn : ¬ foot p A a.block) : IsIn (w.setCell a v) p A cap s :=
  h.mod ((Mod.refl (fun k => k = a.block) w).setCell (fun _ => rfl) v) fun k hk e => hn (e ▸ hk)

/-- The end of Next, where an item is told: the stores into its own locals and the intake. -/
theorem next_end {w w2 : World} {p : Nat} {A A' : Option Addr} {cap' : Nat} {s s2 : St} {kv : Int} {tx : List UInt8} {Ab : Option Addr} {nb cb : Nat} {bd : List UInt8} (hlt : ∀ k, foot p A k → k < w.heap.size) (hm : Mod (foot p A) w w2) (h2 : IsIn w2 p A' cap' s2)
    (hin : ∀ k, InB A' k → InB A k ∨ w.heap.size + 1 < k) (hob : OwnB w2 5 Ab nb cb bd) (hfr : ∀ k, InB Ab k → w.heap.size + 1 < k ∧ ¬ InB A' k) (he : next s = ({ s2 with stands := 0 }, some ⟨kv, tx, bd⟩)) (v0 v1 v2 u0 u1 u2 : Value) :
    Gives (NextPost w p A s) (.returned (.tuple #[.agg #[.int .i64 kv, .string ⟨tx.toArray⟩, .slice Ab nb cb], .bool true]))
      (((((((w2.setCell ⟨w.heap.size + 1, 0, none⟩ v0).setCell ⟨w.heap.size + 1, 1, none⟩ v1).setCell ⟨w.heap.size + 1, 2, none⟩ v2).setCell ⟨p, 1, none⟩ (.int .i64 0)).setCell ⟨w.heap.size, 0, none⟩ u0).setCell ⟨w.heap.size, 1, none⟩ u1).setCell ⟨w.heap.size, 2, none⟩ u2) := by
  refine Gives.mk ?_
  unfold NextPost
  rw [he]
  have hp := hlt p (.inl rfl)
  have hn1 : ¬ foot p A' (w.heap.size + 1) := fun h => by
    rcases h with h | h
    · omega
    · rcases hin _ h with h | h
      · have := hlt _ (.inr h); omega
      · omega
  have hn0 : ¬ foot p A' w.heap.size := fun h => by
    rcases h with h | h
    · omega
    · rcases hin _ h with h | h
      · have := hlt _ (.inr h); omega
      · omega
  have hb1 : ¬ InB Ab (w.heap.size + 1) := fun h => by have := (hfr _ h).1; omega
  have hb0 : ¬ InB Ab w.heap.size := fun h => by have := (hfr _ h).1; omega
  have hbp : ¬ InB Ab p := fun h => by have := (hfr _ h).1; omega
  refine ⟨A', cap', Ab, nb, cb, rfl, ?_, ?_, fun k hk => ⟨by have := (hfr k hk).1; omega, (hfr k hk).2⟩, ?_, fun k hk => by
    rcases hin k hk with h | h
    · exact .inl h
    · exact .inr (by omega)⟩
  · exact (((((((h2.far _ _ hn1).far _ _ hn1).far _ _ hn1).stand0).far _ _ hn0).far _ _ hn0).far _ _ hn0)
  · exact (((((((hob.setCell _ _ hb1).setCell _ _ hb1).setCell _ _ hb1).setCell _ _ hbp).setCell _ _ hb0).setCell _ _ hb0).setCell _ _ hb0)
  · refine Mod.setCell (Mod.setCell (Mod.setCell (Mod.setCell (Mod.setCell (Mod.setCell (Mod.setCell hm ?_ _) ?_ _) ?_ _) ?_ _) ?_ _) ?_ _) ?_ _
    · exact fun h => absurd (show w.heap.size + 1 < w.heap.size from h) (by omega)
    · exact fun h => absurd (show w.heap.size + 1 < w.heap.size from h) (by omega)
    · exact fun h => absurd (show w.heap.size + 1 < w.heap.size from h) (by omega)
    · exact fun _ => .inl rfl
    · exact fun h => absurd h (Nat.lt_irrefl _)
    · exact fun h => absurd h (Nat.lt_irrefl _)
    · exact fun h => absurd h (Nat.lt_irrefl _)

/-- Where it stands at a body. -/
theorem Next_body (w : World) (p : Nat) (A : Option Addr) (cap : Nat) (s : St) (h : IsIn w p A cap s) (hs : s.stands = 2) (hsz : s.held.length ≤ 140737488355328) :
    Calls Try.prog 25 #[.pointer (some ⟨p, 0, none⟩)] w (Gives (NextPost w p A s)) := by
  obtain ⟨c0, c1, c2, c3, c4, c5, c6⟩ := h.cells
  have hlt := h.blk.lt
  have hmx := h.own.max
  have hle := h.own.le
  have hok := h.ok.size
  obtain ⟨sz, hsz1⟩ := Int.eq_ofNat_of_zero_le hok.1
  have f1 := h.frozen 1
  have f2 := h.frozen 2
  rw [hs] at c1
  rw [hsz1] at c3 hok
  have H := Lib.hid (And.intro h (And.intro hs hsz1))
  unfold maxLen at hmx
  clear h hs hsz1 c0 c4 c5 c6
  by_cases hfew : s.held.length < sz + 2
  · have hd : decide ((s.held.length : Int) < (sz : Int) + 2) = true := by simp; omega
    go_enter Try.func25, Try.ntmps25
    go_wp2_with fail
    go_step3
    go_wp2_with fail
    go_step3
    go_wp2_with fail
    refine wp_loop_rounds 1 ?_
    rw [rounds_succ]
    go_wp2_with fail
    go_quiet (fail)
    go_wp2_with fail
    rw [Exit.noGoto_ret]
    refine bodyPost_ret (v := .tuple #[.agg #[.int .i64 0, .string ⟨#[]⟩, .slice none 0 0], .bool false]) (by simp [results, Try.results25, go_sem]) rfl (Gives.mk ?_)
    obtain ⟨h, hs, hz⟩ := H.out
    have e : next s = (s, none) := by
      unfold next next1
      rw [if_neg (by omega), if_neg (by omega), if_pos hs, if_pos (by omega)]
    unfold NextPost
    rw [e]
    refine ⟨A, cap, none, 0, 0, rfl, h.mod (S := fun _ => False) ?_ (fun _ _ h => h), Own.nil _ _ _, fun k hk => by simp at hk, Mod.mono (S := fun _ => False) ?_ (fun _ _ h => h.elim), fun k hk => .inl hk⟩
    all_goals repeat (first | exact Mod.refl _ _ | refine Mod.drewN ?_ _ | refine Mod.alloc ?_ _ | refine Mod.setCell ?_ (fun h => absurd h (by simp)) _)
  · have hd : decide ((s.held.length : Int) < (sz : Int) + 2) = false := by simp; omega
    go_enter Try.func25, Try.ntmps25
    go_wp2_with fail
    go_step3
    go_wp2_with fail
    go_step3
    go_wp2_with fail
    refine wp_loop_rounds 1 ?_
    rw [rounds_succ]
    go_wp2_with fail
    go_quiet (fail)
    go_wp2_with fail
    have hL := Locals.start w nq
    have hI := H.out.1.mod hL.mod (fun _ _ h => h)
    generalize (((w.alloc (.cells #[.int .i64 0, .string ⟨#[]⟩, .slice none 0 0] 54)).alloc (.cells #[.int .i64 0, .string ⟨#[]⟩, .slice none 0 0] 54)).drewN nq) = W at hL hI ⊢
    refine (take_calls _ p A s.held.length cap (sz + 2) hI.cells.2.2.1 (hI.frozen 2) (by omega) hle (by unfold maxLen; omega)).mono ?_
    rintro e w1 ⟨rfl, rfl⟩
    go_wp2_with fail
    have hr := (hI.own.rd.bcut 0 (sz + 2) (Nat.zero_le _) (by omega))
    simp only [cutA_zero, List.drop_zero, Nat.sub_zero] at hr
    have hmt := Mod.set W p 2 (.slice (cutA A cap (sz + 2) 1) (s.held.length - (sz + 2)) (cap - (sz + 2)))
    have hr1 := Rd.mod hr hmt fun k hk e => hI.apart (e ▸ hk)
    have hbp := hI.blk.store 2 (.slice (cutA A cap (sz + 2) 1) (s.held.length - (sz + 2)) (cap - (sz + 2)))
    have ho := (hI.own.bcut (sz + 2) s.held.length (by omega) (Nat.le_refl _)).mod hmt fun k hk e => hI.apart (e ▸ cutA_in hk)
    rw [List.take_of_length_le (by rw [List.length_drop]; omega)] at ho
    have g0 := hL.b0.mod hmt (by have := H.out.1.blk.lt; omega)
    have g1 := hL.b1.mod hmt (by have := H.out.1.blk.lt; omega)
    have hM := hmt
    generalize W.setCell ⟨p, 2, none⟩ (.slice (cutA A cap (sz + 2) 1) (s.held.length - (sz + 2)) (cap - (sz + 2))) = W1 at hr1 hbp ho g0 g1 hM ⊢
    refine (bodyItem_calls W1 A sz cap _ hr1 (by omega)).mono ?_
    rintro e w2 ⟨v, rfl, kv, tv, bv, rfl, ⟨rfl, rfl, Ab, nb, cb, rfl, hob, hfr⟩, hm2⟩
    have g0' := g0.mod hm2 id
    have g1' := g1.mod hm2 id
    have hbp' := hbp.mod hm2 id
    have ho' := ho.mod hm2 fun _ _ => id
    have k10 := g1'.cell 0
    have k11 := g1'.cell 1
    have k12 := g1'.cell 2
    have k00 := g0'.cell 0
    have k01 := g0'.cell 1
    have k02 := g0'.cell 2
    have r10 := g1'.frozen 0 (by simp [zi, InCells])
    have r11 := g1'.frozen 1 (by simp [zi, InCells])
    have r12 := g1'.frozen 2 (by simp [zi, InCells])
    have r00 := g0'.frozen 0 (by simp [zi, InCells])
    have r01 := g0'.frozen 1 (by simp [zi, InCells])
    have r02 := g0'.frozen 2 (by simp [zi, InCells])
    have kp := hbp'.cell 1
    have rp := hbp'.frozen 1 (by simp [zi, InCells])
    have hz := g1'.lt
    simp only [zi, InCells, List.set_cons_zero, List.set_cons_succ, List.getElem?_cons_zero, List.getElem?_cons_succ] at k10 k11 k12 k00 k01 k02 kp
    go_wp2_with fail
    rw [Exit.noGoto_ret]
    refine bodyPost_ret (v := .tuple #[.agg #[.int .i64 (itemOf (s.held.take (sz + 2)) sz).kind, .string ⟨(itemOf (s.held.take (sz + 2)) sz).text.toArray⟩, .slice Ab nb cb], .bool true]) (by simp [results, Try.results25, go_sem, k00, k01, k02, hz]) rfl ?_
    obtain ⟨h, hs, hz'⟩ := H.out
    have hl2 : (s.held.drop (sz + 2)).length = s.held.length - (sz + 2) := List.length_drop
    have hcu : ∀ k, InB (cutA A cap (sz + 2) 1) k → InB A k := fun k hk => cutA_in hk
    have h2 : IsIn w2 p (cutA A cap (sz + 2) 1) (cap - (sz + 2)) { s with held := s.held.drop (sz + 2) } :=
      ⟨by simp only [InCells, hl2]; simpa [InCells] using hbp', by simp only [hl2]; exact ho', ⟨h.ok.1, h.ok.2, h.ok.3, h.ok.4⟩⟩
    have hWs := hL.b1.lt
    have hm : Mod (foot p A) w w2 := ((hL.mod.mono (S' := foot p A) fun _ _ h => h.elim).trans' hM fun i hi e => .inl e).trans' hm2 fun _ _ h => h.elim
    have hMs := hM.size
    have hfr2 : ∀ k, InB Ab k → w.heap.size + 1 < k ∧ ¬ InB (cutA A cap (sz + 2) 1) k := fun k hk => by
      have h3 := hfr k hk
      refine ⟨by omega, fun hk2 => ?_⟩
      have h1 := h.lt k (.inr (hcu k hk2))
      omega
    refine next_end (s2 := { s with held := s.held.drop (sz + 2) }) h.lt hm h2 (fun k hk => .inl (hcu k hk)) hob hfr2 ?_ _ _ _ _ _ _
    unfold next next1
    rw [if_neg (by omega), if_neg (by omega), if_pos hs, if_neg (by omega), hz', Int.toNat_natCast]
    simp only []
    congr 2
    unfold itemOf
    have e1 : (s.held.take (sz + 2))[sz]? = s.held[sz]? := by rw [List.getElem?_take]; simp
    have e2 : (s.held.take (sz + 2))[sz + 1]? = s.held[sz + 1]? := by rw [List.getElem?_take]; simp
    rw [Int.toNat_natCast, List.take_take, Nat.min_eq_left (by omega), e1, e2]

/-- Where it stands at a big body. -/
theorem Next_big (w : World) (p : Nat) (A : Option Addr) (cap : Nat) (s : St) (h : IsIn w p A cap s) (hs : s.stands = 3) :
    Calls Try.prog 25 #[.pointer (some ⟨p, 0, none⟩)] w (Gives (NextPost w p A s)) := by
  obtain ⟨c0, c1, c2, c3, c4, c5, c6⟩ := h.cells
  have hlt := h.blk.lt
  have f1 := h.frozen 1
  rw [hs] at c1
  have H := Lib.hid (And.intro h hs)
  clear h hs c0 c2 c3 c5 c6
  by_cases hl : 0 < s.left
  · go_enter Try.func25, Try.ntmps25
    go_wp2_with fail
    go_step3
    go_wp2_with fail
    go_step3
    go_wp2_with fail
    refine wp_loop_rounds 1 ?_
    rw [rounds_succ]
    go_wp2_with fail
    rw [Exit.noGoto_ret]
    refine bodyPost_ret (v := .tuple #[.agg #[.int .i64 0, .string ⟨#[]⟩, .slice none 0 0], .bool false]) (by simp [results, Try.results25, go_sem]) rfl (Gives.mk ?_)
    obtain ⟨h, hs⟩ := H.out
    have e : next s = (s, none) := by
      unfold next next1
      rw [if_neg (by omega), if_neg (by omega), if_neg (by omega), if_pos hl]
    unfold NextPost
    rw [e]
    refine ⟨A, cap, none, 0, 0, rfl, h.mod (S := fun _ => False) ?_ (fun _ _ h => h), Own.nil _ _ _, fun k hk => by simp at hk, Mod.mono (S := fun _ => False) ?_ (fun _ _ h => h.elim), fun k hk => .inl hk⟩
    all_goals repeat (first | exact Mod.refl _ _ | refine Mod.drewN ?_ _ | refine Mod.alloc ?_ _ | refine Mod.setCell ?_ (fun h => absurd h (by simp)) _)
  · go_enter Try.func25, Try.ntmps25
    go_wp2_with fail
    go_step3
    go_wp2_with fail
    go_step3
    go_wp2_with fail
    refine wp_loop_rounds 1 ?_
    rw [rounds_succ]
    go_wp2_with fail
    rw [Exit.noGoto_ret]
    refine bodyPost_ret (v := .tuple #[.agg #[.int .i64 4, .string ⟨#[]⟩, .slice none 0 0], .bool true]) (by simp [results, Try.results25, go_sem]) rfl ?_
    obtain ⟨h, hs⟩ := H.out
    refine Gives.mk ?_
    have e : next s = ({ s with stands := 0 }, some (item 4 [] [])) := by
      unfold next next1
      rw [if_neg (by omega), if_neg (by omega), if_neg (by omega), if_neg (by omega)]
    unfold NextPost
    rw [e]
    have h1 := h.stand0
    refine ⟨A, cap, none, 0, 0, rfl, h1.mod (((Mod.refl (fun _ => False) _).alloc _).alloc _) (fun _ _ h => h), Own.nil _ _ _, fun k hk => by simp at hk, ?_, fun k hk => .inl hk⟩
    exact (((Mod.set w p 1 _).mono (S' := foot p A) fun _ _ h => .inl h).alloc _).alloc _

/-- Where it stands in a long line. -/
theorem Next_long (w : World) (p : Nat) (A : Option Addr) (cap : Nat) (s : St) (h : IsIn w p A cap s) (hs : s.stands = 1) :
    Calls Try.prog 25 #[.pointer (some ⟨p, 0, none⟩)] w (Gives (NextPost w p A s)) := by
  obtain ⟨c0, c1, c2, c3, c4, c5, c6⟩ := h.cells
  have hlt := h.blk.lt
  have f1 := h.frozen 1
  rw [hs] at c1
  have H := Lib.hid (And.intro h hs)
  clear h hs c0 c2 c3 c4 c5
  cases he : s.ended with
  | false =>
    rw [he] at c6
    have HE := Lib.hid he
    clear he
    go_enter Try.func25, Try.ntmps25
    go_wp2_with fail
    go_step3
    go_wp2_with fail
    go_step3
    go_wp2_with fail
    refine wp_loop_rounds 1 ?_
    rw [rounds_succ]
    go_wp2_with fail
    rw [Exit.noGoto_ret]
    refine bodyPost_ret (v := .tuple #[.agg #[.int .i64 0, .string ⟨#[]⟩, .slice none 0 0], .bool false]) (by simp [results, Try.results25, go_sem]) rfl (Gives.mk ?_)
    obtain ⟨h, hs⟩ := H.out
    have e : next s = (s, none) := by
      unfold next next1
      rw [if_neg (by omega), if_pos hs, HE.out]
      rfl
    unfold NextPost
    rw [e]
    refine ⟨A, cap, none, 0, 0, rfl, h.mod (S := fun _ => False) ?_ (fun _ _ h => h), Own.nil _ _ _, fun k hk => by simp at hk, Mod.mono (S := fun _ => False) ?_ (fun _ _ h => h.elim), fun k hk => .inl hk⟩
    all_goals repeat (first | exact Mod.refl _ _ | refine Mod.drewN ?_ _ | refine Mod.alloc ?_ _ | refine Mod.setCell ?_ (fun h => absurd h (by simp)) _)
  | true =>
    rw [he] at c6
    have HE := Lib.hid he
    clear he
    go_enter Try.func25, Try.ntmps25
    go_wp2_with fail
    go_step3
    go_wp2_with fail
    go_step3
    go_wp2_with fail
    refine wp_loop_rounds 1 ?_
    rw [rounds_succ]
    go_wp2_with fail
    rw [Exit.noGoto_ret]
    refine bodyPost_ret (v := .tuple #[.agg #[.int .i64 2, .string ⟨#[]⟩, .slice none 0 0], .bool true]) (by simp [results, Try.results25, go_sem]) rfl ?_
    obtain ⟨h, hs⟩ := H.out
    refine Gives.mk ?_
    have e : next s = ({ s with stands := 0 }, some (item 2 [] [])) := by
      unfold next next1
      rw [if_neg (by omega), if_pos hs, HE.out]
      rfl
    unfold NextPost
    rw [e]
    have h1 := h.stand0
    refine ⟨A, cap, none, 0, 0, rfl, h1.mod (((Mod.refl (fun _ => False) _).alloc _).alloc _) (fun _ _ h => h), Own.nil _ _ _, fun k hk => by simp at hk, ?_, fun k hk => .inl hk⟩
    exact (((Mod.set w p 1 _).mono (S' := foot p A) fun _ _ h => .inl h).alloc _).alloc _
end Go.Proofs.Ytoeaaomgilgncaa
