/-
  IntakeBounds: the walk of the statement itself.
-/
import Derived.Test.YtoeaaomgilgncaaBounds1
namespace Go.Proofs.Ytoeaaomgilgncaa
open Go.RowKit Go.Mem Go.Intake
set_option linter.unusedVariables false

/-- What holds at the head of each round of the script's loop. -/
structure Head (w wr : World) (p : Nat) (max : Int) (came told bound size : Int) (s : St) : Prop where
  inv : ∃ A cap L, IsIn wr p A cap s ∧ Inv max s came told bound size L ∧ ∀ k, foot p A k → w.heap.size ≤ k
  below : Below w.heap.size w wr
theorem Rd.lt {w : World} {size : Nat} {A : Option Addr} {n cap : Nat} {xs : List Value} (h : Rd w size A n cap xs) (hne : xs ≠ []) (k : Nat) (hk : InB A k) : k < w.heap.size := by
  obtain ⟨g, off, rfl, hg, _⟩ := Rd.cells h (List.length_pos_iff.2 hne)
  simp at hk
  omega
/-- A step that turns the intake, and what is new. -/
theorem Head.step {w wr w' : World} {p : Nat} {max came' told' bound' size' : Int} {s' : St} {A A' : Option Addr} {cap' : Nat} {L : Int} (hb : Below w.heap.size w wr) (hm : Mod (foot p A) wr w') (hf : ∀ k, foot p A k → w.heap.size ≤ k)
    (hin : IsIn w' p A' cap' s') (hinv : Inv max s' came' told' bound' size' L) (hA : ∀ k, InB A' k → InB A k ∨ w.heap.size ≤ k) : Head w w' p max came' told' bound' size' s' :=
  ⟨⟨A', cap', L, hin, hinv, fun k hk => by
    rcases hk with rfl | hk
    · exact hf k (.inl rfl)
    · rcases hA k hk with h | h
      · exact hf k (.inr h)
      · exact h⟩, hb.trans (hm.below hb.size fun i hi h => by have := hf i h; omega)⟩
theorem Head.drewN {w wr : World} {p : Nat} {max came told bound size : Int} {s : St} (h : Head w wr p max came told bound size s) (n : Nat) : Head w (wr.drewN n) p max came told bound size s := by
  obtain ⟨⟨A, cap, L, h1, h2, h3⟩, hb⟩ := h
  exact ⟨⟨A, cap, L, h1.mod ((Mod.refl (fun _ => False) wr).drewN n) fun _ _ h => h, h2, h3⟩, ⟨hb.os, hb.tape, hb.output, hb.size, hb.block⟩⟩
theorem Lw.below {w w' : World} (h : Lw w) (hb : Below w.heap.size w w') : Lw w' := by
  obtain ⟨m, h⟩ := h
  exact ⟨m, (hb.cell (p := ⟨0, 0, none⟩) (World.block_lt_of_cell? _ _ h)).trans h⟩

set_option maxRecDepth 200000 in
set_option maxHeartbeats 4000000 in
theorem Bounds_calls (w : World) (max : Int) (A : Option Addr) (n cap : Nat) (l : List Act) (h : Acts w A n cap l) (hcap : cap ≤ 4398046511104) (hda : ∀ a ∈ l, a.data.length ≤ 140737488355328) (hG : Lw w) (hmax : -9223372036854775808 ≤ max ∧ max ≤ 9223372036854775807) :
    Calls Try.prog 6 #[.int .i64 max, .slice A n cap] w (Gives fun v w' => v = .bool true ∧ Below w.heap.size w w') := by
  have hl := h.len
  have hle := h.le
  have H := Lib.hid (And.intro h (And.intro hda (And.intro hG hl)))
  clear h hda hG hl
  go_enter Try.func6, Try.ntmps6
  go_wp2_with fail
  with_reducible refine (beyond_calls w A n cap l H.out.1 hcap H.out.2.1).mono ?_
  rintro e w' ⟨rfl, rfl⟩
  cases hbe : beyond l with
  | true =>
    go_wp2
    go_ret
    exact Gives.mk ⟨rfl, Below.refl _ _⟩
  | false =>
    have HB := Lib.hid hbe
    clear hbe
    go_wp2_with fail
    with_reducible refine (shown_calls w H.out.2.2.1).mono ?_
    rintro e w1 ⟨v, rfl, rfl, hm1⟩
    have HM := Lib.hid (hm1.below (Nat.le_refl _) fun _ _ h => h)
    clear hm1
    go_wp2_with fail
    by_cases hbad : max < 1 ∨ 65535 < max
    · with_reducible refine (New_no w1 max hbad).mono ?_
      rintro e w2 ⟨rfl, rfl⟩
      by_cases hb1 : max < 1
      · go_wp2
        go_ret
        exact Gives.mk ⟨rfl, HM.out⟩
      · go_wp2
        go_ret
        exact Gives.mk ⟨rfl, HM.out⟩
    · with_reducible refine (New_ok w1 max (by omega) (by omega)).mono ?_
      rintro e w2 ⟨rfl, rfl⟩
      have h1 := new_in w1 max (by omega)
      have hb2 := HM.out.alloc HM.out.size (.cells (InCells (new max) none 0).toArray 76)
      have hp := HM.out.size
      generalize w1.alloc (.cells (InCells (new max) none 0).toArray 76) = w2 at h1 hb2 ⊢
      generalize w1.heap.size = p at h1 hp ⊢
      have HH : Hid (Head w w2 p max 0 0 223 0 (new max)) := ⟨⟨none, 0, 0, h1, inv_new max, fun k hk => by
        rcases hk with rfl | hk
        · exact hp
        · simp at hk⟩, hb2⟩
      have hsum : n + bytesIn l ≤ 2147483647 := by
        have := HB.out
        have := H.out.2.2.2
        simp only [beyond, decide_eq_false_iff_not] at *
        omega
      clear h1 hb2
      go_wp2_with fail
      go_loopg [44, 7, 8, 9, 10] n (fun gg i vc vt vb vs wr => ∃ (k : Nat) (came told bound size : Int) (s : St), k ≤ n ∧ gg = n - k ∧ i = .int .i64 k ∧ vc = .int .i64 came ∧ vt = .int .i64 told ∧ vb = .int .i64 bound ∧ vs = .int .i64 size ∧ Hid (Head w wr p max came told bound size s) ∧ 0 ≤ came ∧ came ≤ bytesIn (l.take k))
      case atStart => exact ⟨0, 0, 0, 223, 0, _, by omega, by omega, rfl, rfl, rfl, rfl, rfl, HH, by omega, by simp [bytesIn]⟩
      case round =>
        clear HH
        obtain ⟨k, came, told, bound, size, s, hk, rfl, rfl, rfl, rfl, rfl, rfl, HH, hcm0, hcm⟩ := hrel
        by_cases hlt : k < n
        · obtain ⟨g, off, rfl, hat⟩ := H.out.1.at_ (by omega)
          have hkl : k < l.length := by rw [H.out.2.2.2]; omega
          have hat := hat k hkl
          have hdk := H.out.2.1 l[k] (List.getElem_mem hkl)
          have hbk := bytesIn_take l k hkl
          have hbl := bytesIn_le l (k + 1)
          generalize l[k] = a at hat hdk hbk
          have hat2 := hat.below HH.out.below
          obtain ⟨_, _, _, ⟨Ad, nd, cd, c30, hrd0⟩, _⟩ := hat
          have hg := World.block_lt_of_cell? _ _ c30
          have c3 := (HH.out.below.cell (p := ⟨g, off + k * 4 + 3, none⟩) hg).trans c30
          have hrd := hrd0.below HH.out.below
          have hnd := hrd.blen
          obtain ⟨c0, c1, c2, _, hr0, hr1, hr2⟩ := hat2
          have HR := Lib.hid (And.intro hrd (And.intro hnd fun (hne : a.data ≠ []) j (hj : InB Ad j) => Rd.lt hrd0 (by
            intro e
            apply hne
            have := congrArg List.length e
            exact List.eq_nil_of_length_eq_zero (by simpa using this)) j hj))
          have hcm2 : came + nd ≤ bytesIn (l.take (k + 1)) ∧ came + nd ≤ 2147483647 := by omega
          have hcm3 : came ≤ bytesIn (l.take (k + 1)) := by omega
          clear hrd hrd0 hcm hbk hbl hdk hkl c30 hg hnd
          go_wp2_with fail
          have hbx := Blk.new wr [.int .i64 a.kind, .int .i64 a.at_, .int .i64 a.n, .slice Ad nd cd] 36
          have hmx := (Mod.refl (fun _ => False) wr).alloc (.cells #[.int .i64 a.kind, .int .i64 a.at_, .int .i64 a.n, .slice Ad nd cd] 36)
          refine at_world fun W hW => ?_
          have hWe : W = wr.alloc (.cells #[.int .i64 a.kind, .int .i64 a.at_, .int .i64 a.n, .slice Ad nd cd] 36) := hW
          have hbx2 : Blk W wr.heap.size [.int .i64 a.kind, .int .i64 a.at_, .int .i64 a.n, .slice Ad nd cd] 36 := by rw [hWe]; exact hbx
          rw [← hWe] at hmx
          clear hbx hWe hW c0 c1 c2 c3
          with_reducible refine (among_calls W a.kind 4 hr0 (by omega)).mono ?_
          rintro e w' ⟨rfl, rfl⟩
          have x2 := hbx2.cell 2
          have x3 := hbx2.cell 3
          simp only [List.getElem?_cons_zero, List.getElem?_cons_succ] at x2 x3
          have HX := Lib.hid (And.intro hbx2 hmx)
          clear hbx2 hmx
          obtain ⟨A1, cap1, L, hin, hinv, hfr⟩ := HH.out.inv
          have hpl := hin.blk.lt
          have hin1 := hin.mod HX.out.2 (fun _ _ h => h)
          have hbW := HH.out.below.trans (HX.out.2.below HH.out.below.size fun _ _ h => h)
          have hhl : s.held.length ≤ 2147483647 := by
            have := hinv.acc
            have := hinv.told0
            have := hinv.l0
            omega
          have hxne : ¬ foot p A1 wr.heap.size := fun hh => absurd (hin.lt _ hh) (Nat.lt_irrefl _)
          have H1 := Lib.hid (And.intro hin1 (And.intro hinv (And.intro hfr (And.intro hbW hxne))))
          clear hin hinv hfr hin1 hbW hxne HH
          by_cases hq : among a.kind 4 = 3
          · go_wp2_with fail
            with_reducible refine (Body_calls W p A1 cap1 s H1.out.1 a.n hr2 (by omega)).mono ?_
            rintro e w3 ⟨v, rfl, A2, cap2, rfl, hin2, hm2, hA2⟩
            have hx3 := HX.out.1.mod hm2 (by omega)
            have y2 := hx3.cell 2
            simp only [List.getElem?_cons_zero, List.getElem?_cons_succ] at y2
            have hmf : Mod (foot p A1) W w3 := hm2.mono fun i _ h => .inl h
            have H2 := Lib.hid (And.intro hin2 (And.intro hmf hA2))
            clear hin2 hm2 hmf hA2 hx3 x2 x3
            by_cases hz : (body s a.n).2 = 0
            · obtain ⟨hz1, L', hz2⟩ := inv_body H1.out.2.1 H1.out.1.ok a.n hz
              rw [hz]
              have HS : Hid (Head w w3 p max came told (if a.n ≤ max then a.n + 1 else 223) a.n (body s a.n).1) :=
                Head.step H1.out.2.2.2.1 H2.out.2.1 H1.out.2.2.1 H2.out.1 hz2 fun j hj => .inl (H2.out.2.2 j hj)
              clear hz hz2 H1 H2 HX
              generalize (body s a.n).1 = s2 at HS
              by_cases hm4 : a.n ≤ max
              · rw [if_pos hm4] at HS
                go_wp2
                go_roundg (n - (k + 1))
                case measure => omega
                case rel => exact ⟨k + 1, came, told, a.n + 1, a.n, s2, by omega, rfl, by go_num, rfl, rfl, rfl, rfl, HS, hcm0, hcm3⟩
              · rw [if_neg hm4] at HS
                go_wp2
                go_roundg (n - (k + 1))
                case measure => omega
                case rel => exact ⟨k + 1, came, told, 223, a.n, s2, by omega, rfl, by go_num, rfl, rfl, rfl, rfl, HS, hcm0, hcm3⟩
            · have hbe := body_refused s a.n hz
              have H3 := H2.out
              rw [hbe] at H3 ⊢
              have HS : Hid (Head w w3 p max came told bound size s) :=
                Head.step H1.out.2.2.2.1 H3.2.1 H1.out.2.2.1 H3.1 H1.out.2.1 fun j hj => .inl (H3.2.2 j hj)
              clear hz H1 H2 HX H3 hbe
              go_wp2
              go_roundg (n - (k + 1))
              case measure => omega
              case rel => exact ⟨k + 1, came, told, bound, size, s, by omega, rfl, by go_num, rfl, rfl, rfl, rfl, HS, hcm0, hcm3⟩
          · have hqb : (among a.kind 4 == 3) = false := by simpa using hq
            clear hq
            go_wp2_with fail
            have hrW := HR.out.1.mod' HX.out.2 fun _ _ _ h => h
            with_reducible refine (Feed_calls W p A1 cap1 s H1.out.1 Ad nd cd a.data hrW (fun hne hj => by have := HR.out.2.2 hne p hj; omega) (by omega)).mono ?_
            rintro e w3 ⟨v, rfl, A2, cap2, rfl, hin2, hm2, hA2⟩
            have hx3 := HX.out.1.mod hm2 H1.out.2.2.2.2
            have y3 := hx3.cell 3
            simp only [List.getElem?_cons_zero, List.getElem?_cons_succ] at y3
            obtain ⟨L', hif⟩ := inv_feed H1.out.2.1 H1.out.1.ok a.data
            rw [HR.out.2.1] at hif
            have HS : Hid (Head w w3 p max (came + nd) told bound size (feed s a.data)) :=
              Head.step H1.out.2.2.2.1 hm2 H1.out.2.2.1 hin2 hif fun j hj => by
                rcases hA2 j hj with h | h
                · exact .inl h
                · exact .inr (Nat.le_trans H1.out.2.2.2.1.size h)
            clear hin2 hm2 hA2 hx3 x2 x3 hif H1 HX hrW
            generalize feed s a.data = s2 at HS
            go_wp2_with fail
            clear y3
            go_loopg [8, 9] (meas s2) (fun gg vt vb wi => ∃ (told bound : Int) (s3 : St), gg = meas s3 ∧ vt = .int .i64 told ∧ vb = .int .i64 bound ∧ Hid (Head w wi p max (came + nd) told bound size s3))
            case atStart => exact ⟨told, bound, s2, rfl, rfl, rfl, HS⟩
            case round =>
              clear HS told bound s2
              obtain ⟨told, bound, s3, rfl, rfl, rfl, HS⟩ := hrel
              go_wp2_with fail
              obtain ⟨A3, cap3, L3, hin3, hinv3, hfr3⟩ := HS.out.inv
              have hb3 := HS.out.below
              have h03 : ¬ foot p A3 0 := fun hf => by
                have := hfr3 0 hf
                have := H.out.2.2.1.pos
                omega
              have hacc := hinv3.acc
              have ht0 := hinv3.told0
              have hl0 := hinv3.l0
              have hinx := inv_next hinv3 hin3.ok
              have HN := Lib.hid (And.intro hinx (And.intro hb3 (And.intro hfr3 (And.intro hinv3.sz hinv3.b))))
              have hmaxs := hinv3.most
              with_reducible refine (Next_calls wr p A3 cap3 s3 hin3 (by omega) (H.out.2.2.1.below hb3) h03).mono ?_
              rintro e w5 ⟨v, rfl, hx⟩
              clear hinx hinv3 hfr3 h03 HS
              unfold NextPost at hx
              obtain ⟨s4, o, hns⟩ : ∃ s4 o, next s3 = (s4, o) := ⟨_, _, rfl⟩
              rw [hns] at hx HN
              obtain ⟨A4, cap4, Ab, nb, cb, rfl, hin4, hob, hfb, hm4, hA4⟩ := hx
              have hnb := hob.blen
              have hlt4 := hin4.lt
              have hby : ∀ k, foot p A4 k → w.heap.size ≤ k := fun j hj => by
                rcases hj with rfl | hj
                · exact hp
                · rcases hA4 j hj with h | h
                  · exact HN.out.2.2.1 j (.inr h)
                  · exact Nat.le_trans HN.out.2.1.size h
              have hb5 : Below w.heap.size w w5 := HN.out.2.1.trans (hm4.below HN.out.2.1.size fun i hi h => by have := HN.out.2.2.1 i h; omega)
              cases o with
              | none =>
                obtain ⟨L4, hinv4, hbd⟩ := HN.out.1.1 rfl
                replace hinv4 : Inv max s4 (came + nd) told bound size L4 := hinv4
                replace hbd : (s4.held.length : Int) ≤ bound := hbd
                simp only [Option.getD_none, Option.isSome_none, zeroItem]
                have hin5 := hin4.mod ((Mod.refl (fun _ => False) w5).alloc (.cells #[.int .i64 0, .string ⟨#[]⟩, .slice Ab nb cb] 54)) fun _ _ h => h
                have hb6 := hb5.alloc hb5.size (.cells #[.int .i64 0, .string ⟨#[]⟩, .slice Ab nb cb] 54)
                have hacc4 := hinv4.acc
                have hl4 := hinv4.l0
                have HZ := Lib.hid (And.intro hin5 (And.intro hinv4 (And.intro hb6 (And.intro hby hns))))
                have hd1 : decide (bound < (s4.held.length : Int)) = false := by simp; omega
                have hd2 : decide (came + ↑nd < told + ↑s4.held.length) = false := by simp; omega
                clear hin4 hob hfb hm4 hA4 hlt4 hby hb5 hinv4 hin5 hb6 hns HN hb3 hin3
                go_wp2_with fail
                with_reducible refine (Held_calls _ p A4 cap4 s4 HZ.out.1).mono ?_
                rintro e w6 ⟨rfl, rfl⟩
                go_wp2_with fail
                with_reducible refine (Held_calls _ p A4 cap4 s4 HZ.out.1).mono ?_
                rintro e w6 ⟨rfl, rfl⟩
                go_wp2_with fail
                go_roundg (n - (k + 1))
                case measure => omega
                case rel => exact ⟨k + 1, came + nd, told, bound, size, s4, by omega, rfl, by go_num, rfl, rfl, rfl, rfl, ⟨⟨A4, cap4, L4, HZ.out.1, HZ.out.2.1, HZ.out.2.2.2.1⟩, HZ.out.2.2.1⟩, by omega, hcm2.1⟩
              | some it =>
                obtain ⟨hit, hms⟩ := HN.out.1.2 it rfl
                replace hit : ItemOk max s4 (came + nd) told size it := hit
                replace hms : meas s4 < meas s3 := hms
                simp only [Option.getD_some, Option.isSome_some]
                have hin5 := hin4.mod ((Mod.refl (fun _ => False) w5).alloc (.cells #[.int .i64 it.kind, .string ⟨it.text.toArray⟩, .slice Ab nb cb] 54)) fun _ _ h => h
                have hb6 := hb5.alloc hb5.size (.cells #[.int .i64 it.kind, .string ⟨it.text.toArray⟩, .slice Ab nb cb] 54)
                simp only [Option.getD_some] at hnb
                have hszz := HN.out.2.2.2.1
                obtain ⟨kd, tx, bd⟩ := it
                simp only [] at hin5 hb6 hnb ⊢
                rcases hit with ⟨hk1, htl, hcx, L4, hinv4⟩ | ⟨hk1, L4, hinv4⟩ | ⟨hk1, hbl, hsm, L4, hinv4⟩ | ⟨hk1, hsm, L4, hinv4⟩ | ⟨hk1, hsm, L4, hinv4⟩
                · -- a line
                  simp only [] at hk1 htl hcx hinv4
                  subst hk1
                  have HZ : Hid (Head w _ p max (came + nd) (told + tx.length + 2) 223 size s4) := ⟨⟨A4, cap4, L4, hin5, hinv4, hby⟩, hb6⟩
                  have hacc4 := hinv4.acc
                  have hl4 := hinv4.l0
                  have hsz4 : (ByteArray.mk tx.toArray).size = tx.length := by simp [ByteArray.size]
                  have hcc : ∀ W, Calls Try.prog 22 #[.string ⟨tx.toArray⟩] W fun e w' => e = .returned (.string ⟨tx.toArray⟩) ∧ w' = W := fun W =>
                    (cut_calls W ⟨tx.toArray⟩ (by rw [hsz4]; omega)).mono fun e w' ⟨he, hw⟩ => ⟨by rw [he]; simp only [List.toList_toArray]; rw [hcx], hw.symm⟩
                  have HC := Lib.hid hcc
                  have hd1 : decide ((222 : Int) < (tx.length : Int)) = false := by simp; omega
                  clear hin4 hob hfb hm4 hA4 hlt4 hby hb5 hinv4 hin5 hb6 hns HN hb3 hin3 hcc hcx
                  go_wp2_with fail
                  go_quiet ((go_at_call 22; exact Calls.quiet_of_same (HC.out _)))
                  go_wp2_with fail
                  go_roundg (meas s4)
                  case measure => exact hms
                  case rel => exact ⟨told + tx.length + 2, 223, s4, rfl, by congr 1; omega, rfl, HZ.drewN _⟩
                · -- a long line
                  simp only [] at hk1 hinv4
                  subst hk1
                  have HZ : Hid (Head w _ p max (came + nd) (told + 225) 223 size s4) := ⟨⟨A4, cap4, L4, hin5, hinv4, hby⟩, hb6⟩
                  have hacc4 := hinv4.acc
                  have hl4 := hinv4.l0
                  clear hin4 hob hfb hm4 hA4 hlt4 hby hb5 hinv4 hin5 hb6 hns HN hb3 hin3
                  go_wp2_with fail
                  go_roundg (meas s4)
                  case measure => exact hms
                  case rel => exact ⟨told + 225, 223, s4, rfl, rfl, rfl, HZ⟩
                · -- a body
                  simp only [] at hk1 hinv4 hbl
                  subst hk1
                  have HZ : Hid (Head w _ p max (came + nd) (told + size + 2) 223 size s4) := ⟨⟨A4, cap4, L4, hin5, hinv4, hby⟩, hb6⟩
                  have hacc4 := hinv4.acc
                  have hl4 := hinv4.l0
                  have hd1 : ((nb : Int) != size) = false := by simp; omega
                  have hd2 : decide (max < size) = false := by simp; omega
                  have hmle := hob.le
                  have hmmx := hob.max
                  clear hin4 hob hfb hm4 hA4 hlt4 hby hb5 hinv4 hin5 hb6 hns HN hb3 hin3
                  go_wp2_with fail
                  go_roundg (meas s4)
                  case measure => exact hms
                  case rel => exact ⟨told + size + 2, 223, s4, rfl, by congr 1; omega, rfl, HZ⟩
                · -- a body without its end
                  simp only [] at hk1 hinv4
                  subst hk1
                  have HZ : Hid (Head w _ p max (came + nd) (told + size + 2) 223 size s4) := ⟨⟨A4, cap4, L4, hin5, hinv4, hby⟩, hb6⟩
                  have hacc4 := hinv4.acc
                  have hl4 := hinv4.l0
                  have hd2 : decide (max < size) = false := by simp; omega
                  clear hin4 hob hfb hm4 hA4 hlt4 hby hb5 hinv4 hin5 hb6 hns HN hb3 hin3
                  go_wp2_with fail
                  go_roundg (meas s4)
                  case measure => exact hms
                  case rel => exact ⟨told + size + 2, 223, s4, rfl, by congr 1; omega, rfl, HZ⟩
                · -- a big one
                  simp only [] at hk1 hinv4
                  subst hk1
                  have HZ : Hid (Head w _ p max (came + nd) (told + size + 2) 223 size s4) := ⟨⟨A4, cap4, L4, hin5, hinv4, hby⟩, hb6⟩
                  have hacc4 := hinv4.acc
                  have hl4 := hinv4.l0
                  have hd2 : decide (max < size) = true := by simp; omega
                  clear hin4 hob hfb hm4 hA4 hlt4 hby hb5 hinv4 hin5 hb6 hns HN hb3 hin3
                  go_wp2_with fail
                  go_roundg (meas s4)
                  case measure => exact hms
                  case rel => exact ⟨told + size + 2, 223, s4, rfl, by congr 1; omega, rfl, HZ⟩
        · go_wp2
          go_ret
          exact Gives.mk ⟨rfl, HH.out.below⟩
end Go.Proofs.Ytoeaaomgilgncaa
