/-
  IntakeScript: the desk: next.
-/
import Derived.Test.YtoeaaomgilgncaaDesk6
namespace Go.Proofs.Ytoeaaomgilgncaa
open Go.RowKit Go.Mem Go.Intake
set_option linter.unusedVariables false

theorem next1_len {s : St} : (next1 s).1.held.length ≤ s.held.length ∧ ∀ it, (next1 s).2 = some it → it.body.length ≤ s.held.length := by
  unfold next1
  split
  · split
    · exact ⟨Nat.le_refl _, fun it h => by simp only [Option.some.injEq] at h; subst h; exact Nat.zero_le _⟩
    · exact ⟨Nat.le_refl _, fun it h => by simp at h⟩
  · split
    · split
      · exact ⟨Nat.le_refl _, fun it h => by simp at h⟩
      · refine ⟨by simp only [List.length_drop]; omega, fun it h => ?_⟩
        simp only [Option.some.injEq] at h
        subst h
        split
        · simp only [item, List.length_take]; omega
        · exact Nat.zero_le _
    · split
      · exact ⟨Nat.le_refl _, fun it h => by simp at h⟩
      · exact ⟨Nat.le_refl _, fun it h => by simp only [Option.some.injEq] at h; subst h; exact Nat.zero_le _⟩
theorem next_len (s : St) : (next s).1.held.length ≤ s.held.length ∧ ((next s).2.getD zeroItem).body.length ≤ s.held.length := by
  have key : ∀ x : St × Option It, (x.1.held.length ≤ s.held.length ∧ ∀ it, x.2 = some it → it.body.length ≤ s.held.length) → x.1.held.length ≤ s.held.length ∧ (x.2.getD zeroItem).body.length ≤ s.held.length := fun x hx => by
    refine ⟨hx.1, ?_⟩
    cases ho : x.2 with
    | none => exact Nat.zero_le _
    | some it => exact hx.2 it ho
  apply key
  unfold next
  split
  · split
    · exact ⟨by simp only [List.length_drop]; omega, fun it h => by simp only [Option.some.injEq] at h; subst h; exact Nat.zero_le _⟩
    · split
      · exact ⟨Nat.le_refl _, fun it h => by simp at h⟩
      · have h1 := next1_len (s := long s)
        have h2 := long_held s
        exact ⟨Nat.le_trans h1.1 h2, fun it h => Nat.le_trans (h1.2 it h) h2⟩
  · exact next1_len

section
variable {w0 w : World} {d : Nat} {a : DA} {L : List PR}
/-- The book's own form of the desk, with new bytes in front. -/
theorem desk_keep {o : OB} {R0 : List Ast} (h : Holds w0 w (aO o :: (R0 ++ deskL d a L))) : ∃ R', Holds w0 w (aBlk d (deskCells (.slice a.Aa L.length a.ca) (.slice a.Ab L.length a.cb) a.Ao a.no a.co a.Aw a.no a.cw a.oo.length (.slice a.Al a.nl a.cl)) 32 :: aOwn 30 1 a.Ao a.no a.co ((a.oo ++ a.fo).map OB.val) :: aOwn 30 1 a.Aw a.no a.cw ((a.ow ++ a.fw).map OB.val) :: aO o :: R') ∧
    ∀ (w' : World) (Ao' Aw' : Option Addr) (co' cw' : Nat) (o2 : OB), Holds w0 w' (aBlk d (deskCells (.slice a.Aa L.length a.ca) (.slice a.Ab L.length a.cb) Ao' (a.no + 1) co' Aw' (a.no + 1) cw' a.oo.length (.slice a.Al a.nl a.cl)) 32 :: aOwn 30 1 Ao' (a.no + 1) co' ((a.oo ++ a.fo).map OB.val ++ [o.val]) :: aOwn 30 1 Aw' (a.no + 1) cw' ((a.ow ++ a.fw).map OB.val ++ [o2.val]) :: aO o2 :: aO o :: R') →
      Holds w0 w' (R0 ++ deskL d { a with Ao := Ao', Aw := Aw', no := a.no + 1, co := co', cw := cw', fo := a.fo ++ [o], fw := a.fw ++ [o2] } L) := by
  refine ⟨R0 ++ (aOld (a.oo ++ a.ow) :: (a.fo.map aO ++ (a.fw.map aO ++ (deskR a L.length (L.map PR.va) (L.map PR.vb) ++ (L.map aIp ++ (L.map aRp ++ [])))))), ?_, fun w' Ao' Aw' co' cw' o2 h' => ?_⟩
  · refine h.perm ?_
    refine List.Perm.trans (List.Perm.cons _ (List.perm_append_comm_assoc R0 [aBlk d (deskCells (.slice a.Aa L.length a.ca) (.slice a.Ab L.length a.cb) a.Ao a.no a.co a.Aw a.no a.cw a.oo.length (.slice a.Al a.nl a.cl)) 32, aOwn 30 1 a.Ao a.no a.co ((a.oo ++ a.fo).map OB.val), aOwn 30 1 a.Aw a.no a.cw ((a.ow ++ a.fw).map OB.val)] _)) ?_
    exact (List.perm_middle (l₁ := [aBlk d (deskCells (.slice a.Aa L.length a.ca) (.slice a.Ab L.length a.cb) a.Ao a.no a.co a.Aw a.no a.cw a.oo.length (.slice a.Al a.nl a.cl)) 32, aOwn 30 1 a.Ao a.no a.co ((a.oo ++ a.fo).map OB.val), aOwn 30 1 a.Aw a.no a.cw ((a.ow ++ a.fw).map OB.val)])).symm
  · refine h'.perm ?_
    unfold deskL deskB bookL
    simp only [List.map_append, List.map_cons, List.map_nil, List.append_assoc, List.cons_append, List.nil_append]
    refine List.Perm.trans ?_ (List.perm_append_comm_assoc R0 [aBlk d _ 32, aOwn 30 1 Ao' _ co' _, aOwn 30 1 Aw' _ cw' _] _).symm
    refine List.Perm.append_left [_, _, _] ?_
    refine List.Perm.trans (l₂ := R0 ++ (aO o2 :: aO o :: (aOld (a.oo ++ a.ow) :: (a.fo.map aO ++ (a.fw.map aO ++ (deskR a L.length (L.map PR.va) (L.map PR.vb) ++ (L.map aIp ++ (L.map aRp ++ [])))))))) ?_ ?_
    · refine List.Perm.symm ?_
      refine List.Perm.trans List.perm_middle (List.Perm.cons _ ?_)
      exact List.perm_middle
    · refine List.Perm.append_left R0 ?_
      refine List.Perm.trans (List.Perm.swap _ _ _) ?_
      refine List.Perm.symm ?_
      refine List.Perm.trans (List.perm_middle (l₁ := aOld (a.oo ++ a.ow) :: a.fo.map aO)) (List.Perm.cons _ ?_)
      have := List.perm_middle (l₁ := (aOld (a.oo ++ a.ow) :: a.fo.map aO) ++ a.fw.map aO) (l₂ := deskR a L.length (L.map PR.va) (L.map PR.vb) ++ (L.map aIp ++ (L.map aRp ++ []))) (a := aO o2)
      simp only [List.append_assoc, List.cons_append] at this
      exact this
end

def NextAt (w0 : World) (d : Nat) (L : List PR) (k : Nat) (T K : Nat) (v : Value) (w' : World) : Prop :=
  v = .bool true ∧ ∃ hk : k < L.length, Desk w0 w' d (L.set k ⟨L[k].p, (next L[k].s).1, L[k].q, (rnext L[k].r).1⟩) T (K + 1)
def NextAtA (w0 : World) (d : Nat) (L : List PR) (k : Nat) (T K : Nat) (Aa : Option Addr) (ca : Nat) (Ab : Option Addr) (cb : Nat) (v : Value) (w' : World) : Prop :=
  v = .bool true ∧ ∃ hk : k < L.length, DeskA w0 w' d (L.set k ⟨L[k].p, (next L[k].s).1, L[k].q, (rnext L[k].r).1⟩) T (K + 1) Aa ca Ab cb

set_option maxRecDepth 100000 in
set_option maxHeartbeats 4000000 in
theorem dnextA_calls (w0 w : World) (d : Nat) (L : List PR) (T K : Nat) (Aa : Option Addr) (ca : Nat) (Ab : Option Addr) (cb : Nat) (h : DeskA w0 w d L T K Aa ca Ab cb) (k : Nat) (hk : k < L.length) (hT : T ≤ 100000000000) (hK : K ≤ 10000000000) (hL : L.length ≤ 4) (hG : Lw w0) :
    Calls Try.prog 12 #[.pointer (some ⟨d, 0, none⟩), .int .i64 k] w (Gives (NextAtA w0 d L k T K Aa ca Ab cb)) := by
  obtain ⟨a, hrows, hok, hh⟩ := h
  have HRW := Lib.hid hrows
  clear hrows
  obtain ⟨⟨gA, oA, eA, xA, -⟩, -⟩ := desk_at hh k hk
  obtain ⟨c0, c1, c5⟩ := desk_cells hh
  rw [eA] at c0
  obtain ⟨RZ, HZ, HZB⟩ := desk_zoom (R0 := []) hh k hk
  obtain ⟨AI, capI, hI, hIl, hIs⟩ := Holds.ain2 HZ
  have hE := hok.eqv _ (List.getElem_mem hk)
  have h0 : ¬ foot L[k].p AI 0 := fun hf => by
    have := (hIl 0 hf).1
    have := hG.pos
    omega
  have HC := Lib.hid (Next_calls w L[k].p AI capI L[k].s hI (by omega) (Lw.mod hG (Mod.of_below hh.below (fun _ => False)) id) h0)
  have HI := Lib.hid (And.intro hIs (And.intro HZB hI.ok))
  have H := Lib.hid (And.intro hok hE)
  clear hok hh HZ HZB hI hIl hIs hE h0
  go_enter Try.func12, Try.ntmps12
  go_wp2_with fail
  with_reducible refine HC.out.mono ?_
  rintro e w3 ⟨v, rfl, hx⟩
  unfold NextPost at hx
  obtain ⟨A4, cap4, Ax, nx, cx, rfl, hin4, hob, hfb, hm4, hA4⟩ := hx
  have H3 := HI.out.1 _ _ _ _ _ _ _ _ hin4 hm4 hA4 hob fun j hj => hfb j hj
  have HD3 := HI.out.2.1 [aB Ax nx cx ((next L[k].s).2.getD zeroItem).body] _ _ _ H3
  have hlen := next_len L[k].s
  have hxn : ((next L[k].s).2.getD zeroItem).body.length = nx := hob.blen
  obtain ⟨e1, e2⟩ := H.out.2.1.next HI.out.2.2
  obtain ⟨L1, hL1⟩ : ∃ L1, L1 = L.set k ⟨L[k].p, (next L[k].s).1, L[k].q, L[k].r⟩ := ⟨_, rfl⟩
  have hl1 : L1.length = L.length := by rw [hL1, List.length_set]
  have hk1 : k < L1.length := by omega
  have hLk : L1[k] = ⟨L[k].p, (next L[k].s).1, L[k].q, L[k].r⟩ := by
    subst hL1
    exact List.getElem_set_self _
  rw [← hL1] at HD3
  rw [e2] at HD3 hxn hlen
  rw [e2]
  generalize hit : (rnext L[k].r).2.getD zeroItem = it at HD3 hxn hlen ⊢
  generalize hbs : (rnext L[k].r).2.isSome = bx
  obtain ⟨kd, tx, bd⟩ := it
  simp only [] at HD3 hxn hlen
  have HL := Lib.hid (And.intro hL1 (And.intro hLk (And.intro hit (And.intro hbs (And.intro e1 hlen)))))
  clear hin4 hob hfb hm4 hA4 H3 hL1 hit hbs e1 e2 hlen HC HI xA c0 c1 c5
  obtain ⟨-, ⟨gB, oB, eB, xB, -⟩⟩ := desk_at HD3.tail k hk1
  obtain ⟨c0, c1, c5⟩ := desk_cells HD3.tail
  rw [eB, hl1] at c1
  rw [hLk] at xB
  simp only [] at xB
  have H4 := Holds.alloc_blk HD3 [.int .i64 kd, .string ⟨tx.toArray⟩, .slice Ax nx cx] 54
  have hXlt := World.block_lt_of_cell? _ _ c1
  have hXlt2 := World.block_lt_of_cell? _ _ xB
  simp only [] at hXlt hXlt2
  have HD3 := Lib.hid HD3
  go_wp2_with fail
  refine at_world fun W hW => ?_
  have hWe : W = w3.alloc (.cells #[.int .i64 kd, .string ⟨tx.toArray⟩, .slice Ax nx cx] 54) := hW
  have H4' : Holds w0 W ([aBlk w3.heap.size [.int .i64 kd, .string ⟨tx.toArray⟩, .slice Ax nx cx] 54, aB Ax nx cx bd] ++ deskL d a L1) := by rw [hWe]; exact H4
  clear hWe hW H4 hXlt hXlt2 c0 c1 c5 xB
  generalize w3.heap.size = X at H4' ⊢
  obtain ⟨RZ2, HZ, HZB⟩ := desk_zoom H4' k hk1
  simp only [hLk] at HZ HZB
  obtain ⟨AR, capR, hR, hRl, hRs⟩ := Holds.rin2 HZ.swap
  have hrs : L[k].r.held.length ≤ 100000000000 := by rw [← H.out.2.1.held]; have := H.out.2.2; omega
  have HC := Lib.hid (RNext_calls W L[k].q AR capR L[k].r hR (by omega))
  have HI := Lib.hid (And.intro hRs HZB)
  clear H4' HZ HZB hR hRl hRs HD3
  with_reducible refine HC.out.mono ?_
  rintro e w5 ⟨v, rfl, hx⟩
  unfold RNextPost at hx
  rw [HL.out.2.2.1, HL.out.2.2.2.1] at hx
  obtain ⟨A6, cap6, Ay, ny, cy, rfl, hin6, hob6, hfb6, hm6, hA6⟩ := hx
  simp only [] at hob6
  have H5 := HI.out.2 [aB Ay ny cy bd] _ _ _ ((HI.out.1 _ _ _ _ _ _ _ _ hin6 hm6 hA6 hob6 fun j hj => hfb6 j hj).perm (List.Perm.cons _ (List.Perm.swap _ _ _)))
  have hyn : bd.length = ny := hob6.blen
  obtain ⟨L2, hL2⟩ : ∃ L2, L2 = L1.set k ⟨L[k].p, (next L[k].s).1, L[k].q, (rnext L[k].r).1⟩ := ⟨_, rfl⟩
  rw [← hL2] at H5
  have HL2 := Lib.hid hL2
  clear hin6 hob6 hfb6 hm6 hA6 hL2 HC HI
  have hx2 := (Holds.swap (show Holds w0 w5 (aB Ay ny cy bd :: aBlk X [.int .i64 kd, .string ⟨tx.toArray⟩, .slice Ax nx cx] 54 :: _) from H5)).blk.1.cell 2
  simp only [List.getElem?_cons_zero, List.getElem?_cons_succ] at hx2
  have hXl := World.block_lt_of_cell? _ _ hx2
  simp only [] at hXl
  have H6 := Lib.hid (Holds.alloc_blk H5 [.int .i64 kd, .string ⟨tx.toArray⟩, .slice Ay ny cy] 54)
  clear H5
  go_wp2_with fail
  refine wp_at fun W5 hW5 => ?_
  have H7 : Holds w0 W5 (aBlk w5.heap.size [.int .i64 kd, .string ⟨tx.toArray⟩, .slice Ay ny cy] 54 :: aB Ay ny cy bd :: aBlk X [.int .i64 kd, .string ⟨tx.toArray⟩, .slice Ax nx cx] 54 :: aB Ax nx cx bd :: deskL d a L2) := by
    rw [hW5]
    exact H6.out
  clear hW5 H6 hx2 hXl
  generalize w5.heap.size = Y at H7 ⊢
  have x2 := H7.get3.blk.1.cell 2
  simp only [List.getElem?_cons_zero, List.getElem?_cons_succ] at x2
  have hblt := (desk_blk H7.tail.tail.tail.tail)
  obtain ⟨RK, HK, HKB⟩ := desk_keep (o := ⟨Ax, nx, cx, bd⟩) (R0 := [aBlk Y [.int .i64 kd, .string ⟨tx.toArray⟩, .slice Ay ny cy] 54, aB Ay ny cy bd, aBlk X [.int .i64 kd, .string ⟨tx.toArray⟩, .slice Ax nx cx] 54]) H7.get4
  have hcnt := H.out.1.cnt
  have HC := Lib.hid (show Calls Try.prog 34 #[.pointer (some ⟨d, 2, none⟩), .slice Ax nx cx] W5.drew _ from keep_calls w0 W5.drew d _ _ _ _ _ _ _ _ _ _ _ _ ⟨Ax, nx, cx, bd⟩ RK HK.drew ⟨by omega, by omega, by simp only []; have := HL.out.2.2.2.2.2.2; have := H.out.2.2; omega⟩)
  have HKB := Lib.hid HKB
  clear HK H7 hblt hcnt
  go_still_tail 5, (by kernel_rfl)
  go_wp2_with fail
  with_reducible refine HC.out.mono ?_
  rintro e w6 ⟨v, rfl, rfl, Ao', co', Aw', cw', o2, ho2, hk6⟩
  have H8 := HKB.out _ _ _ _ _ _ hk6
  clear hk6 HC HKB x2
  have hy := (show Holds w0 w6 (aBlk Y [.int .i64 kd, .string ⟨tx.toArray⟩, .slice Ay ny cy] 54 :: _) from H8).blk.1
  have hx := (Holds.get3 (show Holds w0 w6 (aBlk Y [.int .i64 kd, .string ⟨tx.toArray⟩, .slice Ay ny cy] 54 :: aB Ay ny cy bd :: aBlk X [.int .i64 kd, .string ⟨tx.toArray⟩, .slice Ax nx cx] 54 :: _) from H8)).blk.1
  have hyb := (Holds.swap (show Holds w0 w6 (aBlk Y [.int .i64 kd, .string ⟨tx.toArray⟩, .slice Ay ny cy] 54 :: aB Ay ny cy bd :: _) from H8)).own.1
  have hxb : RdB w6 Ax nx cx bd := holds_rd (m := a.fo ++ [⟨Ax, nx, cx, bd⟩]) (l0 := deskB d { a with Ao := Ao', Aw := Aw', no := a.no + 1, co := co', cw := cw', fo := a.fo ++ [⟨Ax, nx, cx, bd⟩], fw := a.fw ++ [o2] } L2.length) (H8.tail.tail.tail) ⟨Ax, nx, cx, bd⟩ (by simp)
  have x0 := hx.cell 0
  have x1 := hx.cell 1
  have x2 := hx.cell 2
  have y0 := hy.cell 0
  have y1 := hy.cell 1
  have y2 := hy.cell 2
  simp only [List.getElem?_cons_zero, List.getElem?_cons_succ] at x0 x1 x2 y0 y1 y2
  have HB := Lib.hid (And.intro hxb hyb.rd)
  have H9 := Lib.hid H8.tail.tail.tail
  have HO := Lib.hid ho2
  clear hx hy hyb hxb H8 ho2
  go_wp2_with fail
  with_reducible refine (alike_calls w6 kd kd ⟨tx.toArray⟩ ⟨tx.toArray⟩ Ax Ay nx ny cx cy bd bd HB.out.1 HB.out.2).mono ?_
  rintro e w7 ⟨rfl, hm7⟩
  have ht : alikeB kd kd ⟨tx.toArray⟩ ⟨tx.toArray⟩ bd bd = true := by simp [alikeB]
  rw [ht]
  have H10 := Lib.hid (H9.out.quiet hm7)
  clear hm7 H9 ht x0 x1 x2 y0 y1 y2
  go_wp2_with fail
  go_ret
  obtain ⟨k1, k2, k3, k4, k5, k6, k7⟩ := HL.out
  have e2 : L2 = L.set k ⟨L[k].p, (next L[k].s).1, L[k].q, (rnext L[k].r).1⟩ := by rw [HL2.out, k1, List.set_set]
  refine Gives.mk ⟨rfl, hk, { a with Ao := Ao', Aw := Aw', no := a.no + 1, co := co', cw := cw', fo := a.fo ++ [⟨Ax, nx, cx, bd⟩], fw := a.fw ++ [o2] }, HRW.out, ?_, e2 ▸ H10.out⟩
  refine ⟨H.out.1.e1, by simp only [List.map_append, List.map_cons, List.map_nil, H.out.1.e2, HO.out], fun o ho => ?_, by have := H.out.1.cnt; simp only [List.length_append, List.length_cons, List.length_nil]; omega, fun x hx => ?_⟩
  · rcases List.mem_append.1 ho with ho | ho
    · exact H.out.1.fb o ho
    · obtain rfl : o = ⟨Ax, nx, cx, bd⟩ := by simpa using ho
      exact Nat.le_trans k7 H.out.2.2
  · rcases List.mem_or_eq_of_mem_set hx with hx | rfl
    · exact H.out.1.eqv x hx
    · exact ⟨k5, Nat.le_trans k6 H.out.2.2⟩
theorem dnext_calls (w0 w : World) (d : Nat) (L : List PR) (T K : Nat) (h : Desk w0 w d L T K) (k : Nat) (hk : k < L.length) (hT : T ≤ 100000000000) (hK : K ≤ 10000000000) (hL : L.length ≤ 4) (hG : Lw w0) :
    Calls Try.prog 12 #[.pointer (some ⟨d, 0, none⟩), .int .i64 k] w (Gives (NextAt w0 d L k T K)) := by
  obtain ⟨Aa, ca, Ab, cb, hA⟩ := h.rows
  refine (dnextA_calls w0 w d L T K Aa ca Ab cb hA k hk hT hK hL hG).mono ?_
  rintro e w' ⟨v, rfl, rfl, hk', h'⟩
  exact Gives.mk ⟨rfl, hk', h'.desk⟩
end Go.Proofs.Ytoeaaomgilgncaa
