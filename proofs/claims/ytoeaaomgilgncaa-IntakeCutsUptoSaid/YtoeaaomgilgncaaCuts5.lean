/-
  IntakeCuts: the walk of drain.
-/
import Derived.Test.YtoeaaomgilgncaaCuts4
import Derived.WalkMore
import Derived.Deep.DeepCutAuto
import Derived.Deep.RegionLaw
import Derived.Deep.RegionHeld3
import Derived.BigQuiet
namespace Go.Proofs.Ytoeaaomgilgncaa
open Go.RowKit Go.Mem Go.Intake
set_option linter.unusedVariables false

/-- Behind the append: the items are one more. -/
structure Told (w W : World) (r p : Nat) (A Ai : Option Addr) (bs : List Loc) (Az : Option Addr) (nz cz : Nat) (s4 : St) (k1 : Nat) (its : List It) (it : It) (bx : Nat) : Prop where
  rd : ∃ A' cap' Ai' ci' bs', RD W r p A' cap' Ai' ci' bs' Az nz cz s4 k1 (its ++ [it]) ∧ (∀ j, foot3 r p A' Ai' bs' j → foot3 r p A Ai bs j ∨ w.heap.size ≤ j) ∧ ¬ foot3 r p A' Ai' bs' bx
  mod : Mod (foot3 r p A Ai bs) w W
  x : ∃ b, Blk W bx (itCells it b) 54

theorem foot3_turn {r p n : Nat} {A A' Ai : Option Addr} {bs : List Loc} (h : ∀ j, InB A' j → InB A j ∨ n ≤ j) (j : Nat) (hj : foot3 r p A' Ai bs j) : foot3 r p A Ai bs j ∨ n ≤ j := by
  rcases hj with hj | (hj | hj) | hj | hj
  · exact .inl (.inl hj)
  · exact .inl (.inr (.inl (.inl hj)))
  · rcases h j hj with h | h
    · exact .inl (.inr (.inl (.inr h)))
    · exact .inr h
  · exact .inl (.inr (.inr (.inl hj)))
  · exact .inl (.inr (.inr (.inr hj)))
theorem RD.turn {w W : World} {r p : Nat} {A A' Ai : Option Addr} {cap cap' ci : Nat} {bs : List Loc} {Az : Option Addr} {nz cz : Nat} {s s' : St} {k : Nat} {its : List It} (h : RD w r p A cap Ai ci bs Az nz cz s k its) (hin : IsIn W p A' cap' s') (hm : Mod (foot p A) w W)
    (hA : ∀ j, InB A' j → InB A j ∨ w.heap.size ≤ j) : RD W r p A' cap' Ai ci bs Az nz cz s' k its :=
  ⟨h.blk.mod hm fun hf => by
      rcases hf with hf | hf
      · exact h.ne_p hf
      · exact own_blk_ne h.inn.own h.blk (by decide) hf, hin, h.own.mod hm fun j hj hf => by
      rcases hf with rfl | hf
      · exact own_blk_ne h.own h.inn.blk (by decide) hj
      · exact own_ne h.own h.inn.own (by decide) j hj hf, h.len, fun i hi hi' => by
      obtain ⟨h1, h2⟩ := h.bod i hi hi'
      refine ⟨h1.mod hm fun j hj hf => ?_, fun j hj hj' => ?_⟩
      · rcases hf with rfl | hf
        · exact own_blk_ne h1 h.inn.blk (by decide) hj
        · exact h2 j hj hf
      · rcases hA j hj' with hf | hf
        · exact h2 j hj hf
        · have := h1.lt j hj; omega⟩

theorem RD.tell {W5 W6 w7 : World} {r p : Nat} {A Ai Ai' : Option Addr} {cap ci ci' : Nat} {bs : List Loc} {Az : Option Addr} {nz cz : Nat} {s : St} {k : Nat} {its : List It} {it : It} {b : Loc} (h5 : RD W5 r p A cap Ai ci bs Az nz cz s k its) (hm0 : Mod (fun _ => False) W5 W6)
    (ho : Own w7 54 3 Ai' (its.length + 1) ci' (cellsOf its bs ++ itCells it b)) (hm : Mod (InB Ai) W6 w7) (hin : ∀ k, InB Ai' k → InB Ai k ∨ W6.heap.size ≤ k) (hob : OwnB W5 5 b.addr it.body.length b.cap it.body) (hba : ∀ j, InB b.addr j → ¬ InB A j) :
    RD (w7.setCell ⟨r, 3, none⟩ (.slice Ai' (its.length + 1) ci')) r p A cap Ai' ci' (bs ++ [b]) Az nz cz s k (its ++ [it]) := by
  have h := h5.mod hm0 fun _ _ h => h
  have hob6 := hob.mod hm0 fun _ _ h => h
  have hrA : ¬ InB Ai r := own_blk_ne h.own h.blk (by decide)
  have hset := Mod.set w7 r 3 (.slice Ai' (its.length + 1) ci')
  have hbody : ∀ {b : Loc} {l : List UInt8}, OwnB W6 5 b.addr l.length b.cap l → OwnB (w7.setCell ⟨r, 3, none⟩ (.slice Ai' (its.length + 1) ci')) 5 b.addr l.length b.cap l := fun h1 =>
    (h1.mod hm fun j hj hf => own_ne h1 h.own (by decide) j hj hf).setCell _ _ (own_blk_ne h1 h.blk (by decide))
  refine ⟨?_, ?_, ?_, by simp [h.len], fun i hi hi' => ?_⟩
  · have := (h.blk.mod hm hrA).store 3 (.slice Ai' (its.length + 1) ci')
    simpa using this
  · refine (h.inn.mod hm fun j hj hf => ?_).mod hset fun j hj e => ?_
    · rcases hj with rfl | hj
      · exact own_blk_ne h.own h.inn.blk (by decide) hf
      · exact own_ne h.inn.own h.own (by decide) j hj hf
    · subst e
      rcases hj with e | hj
      · exact h.ne_p e
      · exact own_blk_ne h.inn.own h.blk (by decide) hj
  · rw [cellsOf_snoc h.len, List.length_append]
    refine ho.setCell _ _ fun hf => ?_
    rcases hin r hf with hf | hf
    · exact hrA hf
    · exact absurd h.blk.lt (by omega)
  · by_cases hlt : i < its.length
    · have hlt' : i < bs.length := by rw [h.len]; exact hlt
      have := h.bod i hlt hlt'
      simp only [List.getElem_append_left hlt, List.getElem_append_left hlt']
      exact ⟨hbody this.1, this.2⟩
    · have e1 : i = its.length := by simp at hi; omega
      subst e1
      have e2 : (bs ++ [b])[its.length]'hi' = b := by
        rw [List.getElem_append_right (by rw [h.len]; exact Nat.le_refl _)]
        simp
      have e3 : (its ++ [it])[its.length]'hi = it := by simp
      rw [e2, e3]
      exact ⟨hbody hob6, hba⟩
theorem Told.mk' {w W5 W6 w7 : World} {r p bx : Nat} {A0 Ai0 : Option Addr} {bs0 : List Loc} {A Ai Ai' : Option Addr} {cap ci ci' : Nat} {bs : List Loc} {Az : Option Addr} {nz cz : Nat} {s : St} {k : Nat} {its : List It} {it : It} {b : Loc} (h5 : RD W5 r p A cap Ai ci bs Az nz cz s k its)
    (hmo : Mod (foot3 r p A0 Ai0 bs0) w W5) (hf3 : ∀ j, foot3 r p A Ai bs j → foot3 r p A0 Ai0 bs0 j ∨ w.heap.size ≤ j) (hob : OwnB W5 5 b.addr it.body.length b.cap it.body) (hfb : ∀ j, InB b.addr j → w.heap.size ≤ j ∧ ¬ InB A j) (hx : Blk W5 bx (itCells it b) 54)
    (hbx : (∀ j, foot3 r p A Ai bs j → j < bx) ∧ (∀ j, InB b.addr j → j < bx))
    (hm0 : Mod (fun _ => False) W5 W6) (ho : Own w7 54 3 Ai' (its.length + 1) ci' (cellsOf its bs ++ itCells it b)) (hm : Mod (InB Ai) W6 w7) (hin : ∀ k, InB Ai' k → InB Ai k ∨ W6.heap.size ≤ k) :
    Told w (w7.setCell ⟨r, 3, none⟩ (.slice Ai' (its.length + 1) ci')) r p A0 Ai0 bs0 Az nz cz s k its it bx := by
  have hs1 := hmo.size
  have hs2 := hm0.size
  have hxl := hx.lt
  have hrl := hbx.1 r (.inl rfl)
  refine ⟨⟨A, cap, Ai', ci', bs ++ [b], h5.tell hm0 ho hm hin hob fun j hj => (hfb j hj).2, fun j hj => ?_, fun hj => ?_⟩, ?_, b, ?_⟩
  · rcases hj with hj | hj | hj | ⟨c, hc, hj⟩
    · exact hf3 j (.inl hj)
    · exact hf3 j (.inr (.inl hj))
    · rcases hin j hj with hj | hj
      · exact hf3 j (.inr (.inr (.inl hj)))
      · exact .inr (by omega)
    · rcases List.mem_append.1 hc with hc | hc
      · exact hf3 j (.inr (.inr (.inr ⟨c, hc, hj⟩)))
      · simp at hc
        subst hc
        exact .inr (hfb j hj).1
  · rcases hj with hj | hj | hj | ⟨c, hc, hj⟩
    · omega
    · exact absurd (hbx.1 bx (.inr (.inl hj))) (Nat.lt_irrefl _)
    · rcases hin bx hj with hj | hj
      · exact absurd (hbx.1 bx (.inr (.inr (.inl hj)))) (Nat.lt_irrefl _)
      · omega
    · rcases List.mem_append.1 hc with hc | hc
      · exact absurd (hbx.1 bx (.inr (.inr (.inr ⟨c, hc, hj⟩)))) (Nat.lt_irrefl _)
      · simp at hc
        subst hc
        exact absurd (hbx.2 bx hj) (Nat.lt_irrefl _)
  · refine ((hmo.trans' hm0 fun _ _ h => h.elim).trans' hm fun i hi hf => (hf3 i (.inr (.inr (.inl hf)))).resolve_right (by omega)).trans' (Mod.set w7 r 3 _) fun i hi e => ?_
    subst e
    exact .inl rfl
  · refine ((hx.mod hm0 id).mod hm fun hf => absurd (hbx.1 bx (.inr (.inr (.inl hf)))) (Nat.lt_irrefl _)).far _ _ (by show bx ≠ r; omega)

theorem RD.line {w : World} {r p : Nat} {A Ai : Option Addr} {cap ci : Nat} {bs : List Loc} {Az : Option Addr} {nz cz : Nat} {s : St} {k : Nat} {its : List It} (h : RD w r p A cap Ai ci bs Az nz cz s k its) (v : Value) (hv : v = .int .i64 ((k + 1 : Nat) : Int)) :
    RD (w.setCell ⟨r, 2, none⟩ v) r p A cap Ai ci bs Az nz cz s (k + 1) its := by
  subst hv
  refine ⟨?_, h.inn.mod (Mod.set w r 2 _) fun j hj e => ?_, h.own.setCell _ _ (own_blk_ne h.own h.blk (by decide)), h.len, fun i hi hi' => ⟨(h.bod i hi hi').1.setCell _ _ (own_blk_ne (h.bod i hi hi').1 h.blk (by decide)), (h.bod i hi hi').2⟩⟩
  · have := h.blk.store 2 (.int .i64 ((k + 1 : Nat) : Int))
    simpa using this
  · subst e
    rcases hj with e | hj
    · exact h.ne_p e
    · exact own_blk_ne h.inn.own h.blk (by decide) hj

set_option maxRecDepth 200000 in
set_option maxHeartbeats 4000000 in
theorem drain_calls (w : World) (r p : Nat) (A : Option Addr) (cap : Nat) (Ai : Option Addr) (ci : Nat) (bs : List Loc) (Az : Option Addr) (nz cz : Nat) (s : St) (k : Nat) (its : List It) (sizes : List Int)
    (h : RD w r p A cap Ai ci bs Az nz cz s k its) (hz : RdI w Az nz cz sizes) (hzb : ∀ z ∈ sizes, -9223372036854775808 ≤ z ∧ z ≤ 9223372036854775807) (hzf : ∀ j, InB Az j → j < w.heap.size ∧ ¬ foot3 r p A Ai bs j)
    (hk : k ≤ its.length) (hN : its.length + meas s ≤ 1000000000000) (hG : Lw w) (h0 : ¬ foot3 r p A Ai bs 0) :
    Calls Try.prog 18 #[.pointer (some ⟨r, 0, none⟩)] w (Gives (DrainPost w r p A Ai bs Az nz cz s k its sizes)) := by
  have hzl : sizes.length = nz := by simpa using hz.len
  have hzle := hz.le
  have hzm := hz.max
  simp only [maxLen] at hzm
  have H := Lib.hid (And.intro hz (And.intro hzb (And.intro hzf (And.intro hG (And.intro h0 hzl)))))
  have HH : Hid (DHead w w r p A Ai bs Az nz cz s k its sizes s k []) := ⟨⟨A, cap, Ai, ci, bs, by rw [List.append_nil]; exact h, fun j hj => .inl hj⟩, Mod.refl _ _, fun l2 s' k' hd => hd, by rw [List.append_nil]; exact ⟨Nat.le_refl _, hk⟩⟩
  clear h hz hzb hzf hG h0 hzl
  go_enter Try.func18, Try.ntmps18
  go_wp2_with fail
  go_loopg [] (meas s) (fun gg wr => ∃ (s1 : St) (k1 : Nat) (l1 : List It), gg = meas s1 ∧ Hid (DHead w wr r p A Ai bs Az nz cz s k its sizes s1 k1 l1))
  case atStart => exact ⟨s, k, [], rfl, HH⟩
  case round =>
    clear HH
    obtain ⟨s1, k1, l1, rfl, HH⟩ := hrel
    obtain ⟨A1, cap1, Ai1, ci1, bs1, hrd, hft⟩ := HH.out.rd
    obtain ⟨hnum, hk1⟩ := HH.out.num
    obtain ⟨L, hL⟩ : ∃ L, L = its ++ l1 := ⟨_, rfl⟩
    rw [← hL] at hrd hnum hk1
    have HL := Lib.hid hL
    clear hL
    have x0 := hrd.blk.cell 0
    simp only [List.getElem?_cons_zero, List.getElem?_cons_succ] at x0
    have hin := hrd.inn
    have h01 : ¬ foot p A1 0 := fun hf => by
      rcases hft 0 (.inr (.inl hf)) with hf | hf
      · exact H.out.2.2.2.2.1 hf
      · have := H.out.2.2.2.1.pos; omega
    have hG1 : Lw wr := H.out.2.2.2.1.mod HH.out.mod H.out.2.2.2.2.1
    have hml : 2 * s1.held.length ≤ meas s1 := by unfold meas; omega
    have H1 := Lib.hid (And.intro hrd (And.intro hft (And.intro hG1 h01)))
    clear hrd hft hG1 h01
    go_wp2_with fail
    with_reducible refine (Next_calls wr p A1 cap1 s1 hin (by omega) H1.out.2.2.1 H1.out.2.2.2).mono ?_
    rintro e w5 ⟨v, rfl, hx⟩
    unfold NextPost at hx
    obtain ⟨s4, o, hns⟩ : ∃ s4 o, next s1 = (s4, o) := ⟨_, _, rfl⟩
    rw [hns] at hx
    obtain ⟨A4, cap4, Ab, nb, cb, rfl, hin4, hob, hfb, hm4, hA4⟩ := hx
    cases o with
    | none =>
      simp only [Option.getD_none, Option.isSome_none, zeroItem] at hin4 ⊢
      have hr5 := H1.out.1.turn hin4 hm4 hA4
      have hr6 := hr5.mod ((Mod.refl (fun _ => False) w5).alloc (.cells #[.int .i64 0, .string ⟨#[]⟩, .slice Ab nb cb] 54)) fun _ _ h => h
      have hmo := (HH.out.mod.trans' hm4 fun i hi hf => (H1.out.2.1 i (.inr (.inl hf))).resolve_right (by omega)).alloc (.cells #[.int .i64 0, .string ⟨#[]⟩, .slice Ab nb cb] 54)
      have hgo := HH.out.go [] s4 k1 (.done hns)
      rw [List.append_nil] at hgo
      have hws := HH.out.mod.size
      have HP : Hid (Gives (DrainPost w r p A Ai bs Az nz cz s k its sizes) (.returned (.tuple #[])) (w5.alloc (.cells #[.int .i64 0, .string ⟨#[]⟩, .slice Ab nb cb] 54))) :=
        Gives.mk ⟨A4, cap4, Ai1, ci1, bs1, s4, k1, l1, rfl, hgo, HL.out ▸ hr6, hmo, fun j hj => by
          rcases foot3_turn hA4 j hj with hj | hj
          · exact H1.out.2.1 j hj
          · exact .inr (by omega)⟩
      clear hin4 hob hfb hm4 hA4 hr5 hr6 hmo hgo hns H1 HH
      go_wp2_with fail
      go_end0
      exact HP.out
    | some it =>
      obtain ⟨kd, tx, bd⟩ := it
      simp only [Option.getD_some, Option.isSome_some] at hin4 hob ⊢
      have hr5 := H1.out.1.turn hin4 hm4 hA4
      have hnb := hob.blen
      subst hnb
      have hmo := HH.out.mod.trans' hm4 fun i hi hf => (H1.out.2.1 i (.inr (.inl hf))).resolve_right (by omega)
      have hlt5 := hr5.blk.lt
      have hle5 := hm4.size
      have y3 := hr5.blk.cell 3
      have hf3 : ∀ j, foot3 r p A4 Ai1 bs1 j → foot3 r p A Ai bs j ∨ w.heap.size ≤ j := fun j hj => by
        rcases foot3_turn hA4 j hj with hj | hj
        · exact H1.out.2.1 j hj
        · have := HH.out.mod.size; exact .inr (by omega)
      simp only [List.getElem?_cons_zero, List.getElem?_cons_succ] at y3
      have H2 := Lib.hid (And.intro hr5 (And.intro hmo (And.intro hf3 (And.intro hob (And.intro hfb (And.intro hns hm4.size))))))
      clear hin4 hob hfb hm4 hA4 hr5 hmo hns H1 hin x0 hf3
      go_wp2_with fail
      have hx5 : Blk (w5.alloc (.cells #[.int .i64 kd, .string ⟨tx.toArray⟩, .slice Ab bd.length cb] 54)) w5.heap.size (itCells ⟨kd, tx, bd⟩ ⟨Ab, cb⟩) 54 := Blk.new w5 (itCells ⟨kd, tx, bd⟩ ⟨Ab, cb⟩) 54
      have hmx := (Mod.refl (fun _ => False) w5).alloc (.cells #[.int .i64 kd, .string ⟨tx.toArray⟩, .slice Ab bd.length cb] 54)
      have hbx : (∀ j, foot3 r p A4 Ai1 bs1 j → j < w5.heap.size) ∧ (∀ j, InB Ab j → j < w5.heap.size) := ⟨fun j hj => H2.out.1.lt j hj, fun j hj => H2.out.2.2.2.1.lt j hj⟩
      have hr6 := H2.out.1.mod hmx fun _ _ h => h
      have hob6 := H2.out.2.2.2.1.mod hmx fun _ _ h => h
      have hmo6 := H2.out.2.1.trans' hmx fun _ _ h => h.elim
      generalize w5.alloc (.cells #[.int .i64 kd, .string ⟨tx.toArray⟩, .slice Ab bd.length cb] 54) = W5 at hx5 hmx hr6 hob6 hmo6 ⊢
      clear y3 hlt5
      generalize w5.heap.size = bx at hx5 hbx ⊢
      have y3 := hr6.blk.cell 3
      have hrl5 := hr6.blk.lt
      have hbl5 := hx5.lt
      have z0 := hx5.cell 0
      have z1 := hx5.cell 1
      have z2 := hx5.cell 2
      simp only [itCells, List.getElem?_cons_zero, List.getElem?_cons_succ] at y3 z0 z1 z2
      have H3 := Lib.hid (And.intro hr6 (And.intro hmo6 (And.intro H2.out.2.2.1 (And.intro hob6 (And.intro (fun j hj => (⟨Nat.le_trans HH.out.mod.size (H2.out.2.2.2.2.1 j hj).1, (H2.out.2.2.2.2.1 j hj).2⟩ : w.heap.size ≤ j ∧ ¬ InB A4 j)) (And.intro hx5 hbx))))))
      have HN := Lib.hid H2.out.2.2.2.2.2.1
      have HO := Lib.hid (fun W (hm : Mod (fun _ => False) W5 W) => (hr6.mod hm fun _ _ h => h).own)
      have HK := Lib.hid (fun W (hm : Mod (fun _ => False) W5 W) => (hr6.mod hm fun _ _ h => h).blk)
      have hni := Lib.hid (own_blk_ne hr6.own hr6.blk (by decide))
      clear hr6 hob6 hmo6 hx5 hbx hmx H2
      have hlen : L.length ≤ 1000000000000 := by omega
      have h1c := Lib.hid (show ∀ u ∈ itCells ⟨kd, tx, bd⟩ ⟨Ab, cb⟩, u.oneCell' = true from (by intro u hu; simp [itCells] at hu; rcases hu with rfl | rfl | rfl <;> rfl))
      go_cut [] (fun W => Told w W r p A Ai bs Az nz cz s4 k1 L ⟨kd, tx, bd⟩ bx)
      case first =>
        go_region_law (refine step_append rfl (.tmp 18) (.tmp 20) 47 47 rfl Try.elt47 Ai1 L.length ci1 (cellsOf L bs1) (by simp [Act.eval, Act.put]) (HO.out _ (by repeat (first | exact Mod.refl _ _ | apply Mod.alloc | apply Mod.drew | apply Mod.drewN))) (.slice (some ⟨W5.heap.size, 0, none⟩) 1 1) 1 (itCells ⟨kd, tx, bd⟩ ⟨Ab, cb⟩) (by simp [Act.eval, Act.put]) (by first | exact Rd.src (Own.row _ 54 3 1 (itCells ⟨kd, tx, bd⟩ ⟨Ab, cb⟩) rfl (by decide)).rd Try.underlying47 h1c.out | exact Rd.src ((Own.row W5 54 3 1 (itCells ⟨kd, tx, bd⟩ ⟨Ab, cb⟩) rfl (by decide)).rd.mod ((Mod.refl (fun _ => False) _).drew) fun _ _ => id) Try.underlying47 h1c.out) (by unfold maxLen; omega) (by omega) ?_; intro A7 c7 w7 ho7 hm7 hin7; have hb7 : Blk w7 r _ 49 := Blk.mod (HK.out _ (by repeat (first | exact Mod.refl _ _ | apply Mod.alloc | apply Mod.drew | apply Mod.drewN))) hm7 hni.out; have q3 := hb7.cell 3; have qf := hb7.frozen 3 (by simp); simp only [List.getElem?_cons_zero, List.getElem?_cons_succ] at q3)
        all_goals
          have HTold : Hid (Told w (w7.setCell ⟨r, 3, none⟩ (.slice A7 (L.length + 1) c7)) r p A Ai bs Az nz cz s4 k1 L ⟨kd, tx, bd⟩ bx) := Told.mk' (b := ⟨Ab, cb⟩) H3.out.1 H3.out.2.1 H3.out.2.2.1 H3.out.2.2.2.1 H3.out.2.2.2.2.1 H3.out.2.2.2.2.2.1 H3.out.2.2.2.2.2.2 (by repeat (first | exact Mod.refl _ _ | apply Mod.alloc | apply Mod.drew | apply Mod.drewN)) ho7 hm7 (fun j hj => by simpa using hin7 j hj)
          clear ho7 hm7 hin7 hb7
          go_wp2_with fail
          go_meet
          exact HTold.out
      case rest =>
        obtain ⟨⟨A8, cap8, Ai8, ci8, bs8, hr8, hf8, hnx⟩, hm8, ⟨b8, hx8⟩⟩ := hcut
        have hdm := after_meas (sizes := sizes) (k := k1) HN.out
        have hgo : ∀ l2 s' k', Drains sizes (after sizes s4 k1 ⟨kd, tx, bd⟩) (lines k1 ⟨kd, tx, bd⟩) l2 s' k' → Drains sizes s k (l1 ++ [⟨kd, tx, bd⟩] ++ l2) s' k' := fun l2 s' k' hd => by
          rw [List.append_assoc]
          exact HH.out.go _ _ _ (.more HN.out hd)
        have hLl : its ++ (l1 ++ [⟨kd, tx, bd⟩]) = L ++ [⟨kd, tx, bd⟩] := by rw [← List.append_assoc, HL.out]
        have hll : (L ++ [(⟨kd, tx, bd⟩ : It)]).length = L.length + 1 := by simp
        have x0 := hr8.blk.cell 0
        have x1 := hr8.blk.cell 1
        have x2 := hr8.blk.cell 2
        have f2 := hr8.blk.frozen 2 (by simp)
        have z0 := hx8.cell 0
        simp only [itCells, List.getElem?_cons_zero, List.getElem?_cons_succ] at x0 x1 x2 z0
        have H8 := Lib.hid (And.intro hr8 (And.intro hf8 (And.intro hm8 (And.intro hgo (And.intro hLl hll)))))
        have HN' := Lib.hid HN.out
        clear hr8 hf8 hnx hm8 hx8 hgo hLl hll H3 HO HK hni h1c HN HH
        by_cases hkd : kd = 1
        · subst hkd
          have e2 : lines k1 ⟨1, tx, bd⟩ = k1 + 1 := rfl
          rw [e2] at H8
          by_cases hkl : k1 < nz
          · have hkl2 : k1 < sizes.length := by rw [H.out.2.2.2.2.2]; exact hkl
            obtain ⟨gz, oz, rfl, cz0⟩ := H.out.1.at_ k1 (by simpa using hkl2)
            simp only [List.getElem_map] at cz0
            have hzb := H.out.2.1 sizes[k1] (List.getElem_mem _)
            have e1 : after sizes s4 k1 ⟨1, tx, bd⟩ = (body s4 sizes[k1]).1 := by
              unfold after
              rw [if_pos rfl, List.getElem?_eq_getElem hkl2]
            rw [e1] at hdm H8
            generalize sizes[k1] = z at cz0 hzb hdm H8
            have cz8 := H8.out.2.2.1.cell cz0 (H.out.2.2.1 gz (by simp)).2
            have hd : decide ((k1 : Int) < (nz : Int)) = true := by simp; omega
            have hkb : k1 ≤ 1000000000000 := by omega
            have hgl := World.block_lt_of_cell? _ _ cz8
            have hms4 := (next_meas HN'.out).1
            have hml4 : 2 * s4.held.length ≤ meas s4 := by unfold meas; omega
            clear e1 e2 cz0
            go_wp2_with fail
            go_quiet (fail)
            go_wp2_with fail
            generalize hwd : wc.drewN _ = wd
            have hr9 : RD wd r p A8 cap8 Ai8 ci8 bs8 (some ⟨gz, oz, none⟩) nz cz s4 k1 (L ++ [⟨1, tx, bd⟩]) := by rw [← hwd]; exact H8.out.1.mod ((Mod.refl (fun _ => False) wc).drewN _) fun _ _ h => h
            have hm9 : Mod (foot3 r p A Ai bs) w wd := by rw [← hwd]; exact H8.out.2.2.1.drewN _
            have x0 : wd.cell? ⟨r, 0, none⟩ = _ := hr9.blk.cell 0
            have x1 : wd.cell? ⟨r, 1, none⟩ = _ := hr9.blk.cell 1
            have x2 : wd.cell? ⟨r, 2, none⟩ = _ := hr9.blk.cell 2
            have c9 : wd.cell? ⟨gz, oz + k1, none⟩ = some (.int .i64 z) := by rw [← hwd]; exact cz8
            simp only [List.getElem?_cons_zero, List.getElem?_cons_succ] at x0 x1 x2
            have hcall := Body_calls wd.drew p A8 cap8 s4 (hr9.mod ((Mod.refl (fun _ => False) wd).drew) fun _ _ h => h).inn z hzb (by omega)
            have HC := Lib.hid hcall
            have HKS := Lib.hid (And.intro x0 (And.intro x1 (And.intro x2 c9)))
            have H9 := Lib.hid (And.intro hr9 hm9)
            clear hcall hr9 hm9 cz8 f2 z0
            have HQ : Hid (∀ v W, BodyPost wd.drew p A8 s4 z v W → W.cell? ⟨r, 0, none⟩ = some (.pointer (some ⟨p, 0, none⟩)) ∧ W.cell? ⟨r, 1, none⟩ = some (.slice (some ⟨gz, oz, none⟩) nz cz) ∧ W.cell? ⟨r, 2, none⟩ = some (.int .i64 k1) ∧ W.cell? ⟨gz, oz + k1, none⟩ = some (.int .i64 z)) := fun v W hx => by
              obtain ⟨_, _, _, _, hmb, _⟩ := hx
              have hrp := H9.out.1.ne_p
              have hgp : gz ≠ p := fun e => by
                rcases H8.out.2.1 p (.inr (.inl (.inl rfl))) with h | h
                · exact (H.out.2.2.1 gz (by simp)).2 (e ▸ h)
                · have := (H.out.2.2.1 gz (by simp)).1; omega
              exact ⟨hmb.cell HKS.out.1 hrp, hmb.cell HKS.out.2.1 hrp, hmb.cell HKS.out.2.2.1 hrp, hmb.cell HKS.out.2.2.2 hgp⟩
            go_cut [] (fun W => ∃ v, BodyPost wd.drew p A8 s4 z v W)
            case first =>
              go_region_held3 (fun w' => w'.cell? ⟨r, 0, none⟩ = some (.pointer (some ⟨p, 0, none⟩)) ∧ w'.cell? ⟨r, 1, none⟩ = some (.slice (some ⟨gz, oz, none⟩) nz cz) ∧ w'.cell? ⟨r, 2, none⟩ = some (.int .i64 k1) ∧ w'.cell? ⟨gz, oz + k1, none⟩ = some (.int .i64 z)) (first | exact HKS.out | exact HQ.out _ _ (by assumption) | go_keep) (first | (go_at_call 26; refine HC.out.mono ?_; rintro e w' ⟨v, rfl, hx⟩))
              all_goals
                have HX := Lib.hid hx
                clear hx
                go_wp2_with fail
                go_meet
                exact ⟨_, HX.out⟩
            case rest =>
              obtain ⟨v, hx⟩ := hcut
              unfold BodyPost at hx
              obtain ⟨A9, cap9, _, hin9, hmb, hA9⟩ := hx
              have hmb' : Mod (fun j => j = p) wd wc := ⟨hmb.os, hmb.tape, hmb.output, hmb.size, hmb.block⟩
              have hrb := H9.out.1.turn hin9 (hmb'.mono fun i _ h => .inl h) fun j hj => .inl (hA9 j hj)
              have hmw : Mod (foot3 r p A Ai bs) w wc := H9.out.2.trans' hmb' fun i hi e => by
                subst e
                rcases H8.out.2.1 i (.inr (.inl (.inl rfl))) with h | h
                · exact h
                · omega
              have q0 := hrb.blk.cell 0
              have q2 := hrb.blk.cell 2
              have f2 := hrb.blk.frozen 2 (by simp)
              simp only [List.getElem?_cons_zero, List.getElem?_cons_succ] at q0 q2
              have HD : ∀ v, v = Value.int .i64 ((k1 + 1 : Nat) : Int) → Hid (DHead w (wc.setCell ⟨r, 2, none⟩ v) r p A Ai bs (some ⟨gz, oz, none⟩) nz cz s k its sizes (body s4 z).1 (k1 + 1) (l1 ++ [⟨1, tx, bd⟩])) := fun v hv =>
                ⟨⟨A9, cap9, Ai8, ci8, bs8, by rw [H8.out.2.2.2.2.1]; exact hrb.line v hv, fun j hj => by
                  rcases foot3_turn (n := w.heap.size) (fun j hj => .inl (hA9 j hj)) j hj with hj | hj
                  · exact H8.out.2.1 j hj
                  · exact .inr hj⟩, hmw.setCell (fun _ => .inl rfl) v, H8.out.2.2.2.1, by rw [H8.out.2.2.2.2.1, H8.out.2.2.2.2.2]; omega⟩
              have HD := Lib.hid HD
              clear H8 H9 hin9 hmb hmb' hrb hmw hA9 HC HKS x0 x1 x2 c9
              go_wp2_with fail
              go_roundg (meas (body s4 z).1)
              case measure => omega
              case rel => exact ⟨_, k1 + 1, _, rfl, HD.out _ (by simp)⟩
          · have hd : decide ((k1 : Int) < (nz : Int)) = false := by simp; omega
            have e1 : after sizes s4 k1 ⟨1, tx, bd⟩ = s4 := by
              unfold after
              rw [if_pos rfl, List.getElem?_eq_none (by rw [H.out.2.2.2.2.2]; omega)]
            rw [e1] at hdm H8
            have hkb : k1 ≤ 1000000000000 := by omega
            have HD : ∀ q v, v = Value.int .i64 ((k1 + 1 : Nat) : Int) → Hid (DHead w ((wc.drewN q).setCell ⟨r, 2, none⟩ v) r p A Ai bs Az nz cz s k its sizes s4 (k1 + 1) (l1 ++ [⟨1, tx, bd⟩])) := fun q v hv =>
              ⟨⟨A8, cap8, Ai8, ci8, bs8, by rw [H8.out.2.2.2.2.1]; exact (H8.out.1.mod ((Mod.refl (fun _ => False) wc).drewN q) fun _ _ h => h).line v hv, H8.out.2.1⟩, (H8.out.2.2.1.drewN q).setCell (fun _ => .inl rfl) v, H8.out.2.2.2.1, by rw [H8.out.2.2.2.2.1, H8.out.2.2.2.2.2]; omega⟩
            have HD := Lib.hid HD
            clear H8 e1 e2
            go_wp2_with fail
            go_quiet (fail)
            go_wp2_with fail
            go_roundg (meas s4)
            case measure => omega
            case rel => exact ⟨s4, k1 + 1, _, rfl, HD.out _ _ (by simp)⟩
        · have hb : (kd == 1) = false := by simpa using hkd
          have e1 : after sizes s4 k1 ⟨kd, tx, bd⟩ = s4 := by unfold after; rw [if_neg hkd]
          have e2 : lines k1 ⟨kd, tx, bd⟩ = k1 := by unfold lines; rw [if_neg hkd]
          rw [e1] at hdm H8
          rw [e2] at H8
          have HD : Hid (DHead w wc r p A Ai bs Az nz cz s k its sizes s4 k1 (l1 ++ [⟨kd, tx, bd⟩])) :=
            ⟨⟨A8, cap8, Ai8, ci8, bs8, by rw [H8.out.2.2.2.2.1]; exact H8.out.1, H8.out.2.1⟩, H8.out.2.2.1, H8.out.2.2.2.1, by rw [H8.out.2.2.2.2.1, H8.out.2.2.2.2.2]; omega⟩
          clear H8 x0 x1 x2 e1 e2 f2
          go_wp2_with fail
          go_roundg (meas s4)
          case measure => omega
          case rel => exact ⟨s4, k1, _, rfl, HD⟩
