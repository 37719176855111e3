/-
  IntakeParts: the walk of the statement itself.
-/
import Derived.Test.YtoeaaomgilgncaaParts1
import Derived.Test.YtoeaaomgilgncaaBounds2
namespace Go.Proofs.Ytoeaaomgilgncaa
open Go.RowKit Go.Mem Go.Intake
set_option linter.unusedVariables false

abbrev RdI (w : World) (A : Option Addr) (n cap : Nat) (l : List Int) : Prop := Rd w 1 A n cap (l.map (Value.int .i64))

set_option maxRecDepth 200000 in
set_option maxHeartbeats 4000000 in
theorem Parts_calls (w : World) (max : Int) (A : Option Addr) (n cap : Nat) (l : List Part) (h : Parts w A n cap l) (hcap : cap ≤ 4398046511104) (hda : ∀ a ∈ l, a.data.length ≤ 140737488355328 ∧ a.text.size ≤ 140737488355328)
    (Ac : Option Addr) (nc cc : Nat) (cuts : List Int) (hc : RdI w Ac nc cc cuts) (hcb : ∀ z ∈ cuts, -9223372036854775808 ≤ z ∧ z ≤ 9223372036854775807) (hG : Lw w) (hmax : -9223372036854775808 ≤ max ∧ max ≤ 9223372036854775807) :
    Calls Try.prog 5 #[.int .i64 max, .slice A n cap, .slice Ac nc cc] w (Gives fun v w' => v = .bool true ∧ Below w.heap.size w w') := by
  have hl := h.len
  have hle := h.le
  have hcl := hc.len
  have hcle := hc.le
  have hcm := hc.max
  simp only [maxLen] at hcm
  have hcl2 : cuts.length = nc := by simpa using hcl
  have H := Lib.hid (And.intro h (And.intro hda (And.intro hG hl)))
  have HC := Lib.hid (And.intro hc (And.intro hcb hcl2))
  clear h hda hG hl hc hcb hcl hcl2
  go_enter Try.func5, Try.ntmps5
  go_wp2_with fail
  with_reducible refine (parts_calls w A n cap l H.out.1 hcap H.out.2.1).mono ?_
  rintro e w' ⟨rfl, q, rfl⟩
  have hbq : Below w.heap.size w (w.drewN q) := ((Mod.refl (fun _ => False) w).drewN q).below (Nat.le_refl _) fun _ _ h => h
  cases hbe : partsB l with
  | true =>
    go_wp2
    go_ret
    exact Gives.mk ⟨rfl, hbq⟩
  | false =>
    have HB := Lib.hid hbe
    clear hbe
    go_wp2_with fail
    with_reducible refine (shown_calls _ (H.out.2.2.1.below hbq)).mono ?_
    rintro e w1 ⟨v, rfl, rfl, hm1⟩
    have HM := Lib.hid (hbq.trans (hm1.below (Nat.le_refl _) fun _ _ h => h))
    clear hm1 hbq
    go_wp2_with fail
    by_cases hbad : max < 1 ∨ 65535 < max
    · with_reducible refine (New_no w1 max hbad).mono ?_
      rintro e w2 ⟨rfl, rfl⟩
      by_cases hb1 : max < 1
      · go_wp2
        go_ret
        exact Gives.mk ⟨rfl, HM.out⟩
      · go_wp2
        go_ret
        exact Gives.mk ⟨rfl, HM.out⟩
    · with_reducible refine (New_ok w1 max (by omega) (by omega)).mono ?_
      rintro e w2 ⟨rfl, rfl⟩
      have h1 := new_in w1 max (by omega)
      have hb2 := HM.out.alloc HM.out.size (.cells (InCells (new max) none 0).toArray 76)
      have hp := HM.out.size
      generalize w1.alloc (.cells (InCells (new max) none 0).toArray 76) = w2 at h1 hb2 ⊢
      generalize w1.heap.size = p at h1 hp ⊢
      have HH : Hid (PHead w w2 p max (new max)) := ⟨⟨none, 0, h1, fun k hk => by
        rcases hk with rfl | hk
        · exact hp
        · simp at hk⟩, hb2, rfl, rfl, rfl⟩
      have hsum : n + partsIn l ≤ 2147483647 := by
        have := HB.out
        have := H.out.2.2.2
        simp only [partsB, decide_eq_false_iff_not] at *
        omega
      clear h1 hb2
      go_wp2_with fail
      go_loopg [52] n (fun gg i wr => ∃ (k : Nat) (s : St), k ≤ n ∧ gg = n - k ∧ i = .int .i64 k ∧ Hid (PHead w wr p max s))
      case atStart => exact ⟨0, _, by omega, by omega, rfl, HH⟩
      case round =>
        clear HH
        obtain ⟨k, s, hk, rfl, rfl, HH⟩ := hrel
        by_cases hlt : k < n
        · obtain ⟨g, off, rfl, hat⟩ := H.out.1.at_ (by omega)
          have hkl : k < l.length := by rw [H.out.2.2.2]; omega
          have hat := hat k hkl
          have hpk := partsIn_take l k hkl
          have hpl := partsIn_le l (k + 1)
          generalize l[k] = a at hat hpk
          obtain ⟨tx, body, broken, data⟩ := a
          have hat2 := hat.below HH.out.blo
          obtain ⟨_, _, _, ⟨Ad, nd, cd, c30, hrd0⟩, _⟩ := hat
          have hg := World.block_lt_of_cell? _ _ c30
          have c3 := (HH.out.blo.cell (p := ⟨g, off + k * 4 + 3, none⟩) hg).trans c30
          have hnd := hrd0.blen
          obtain ⟨c0, c1, c2, _, _⟩ := hat2
          simp only [] at c0 c1 c2 c3 hnd hrd0 hpk
          have HR := Lib.hid (And.intro hrd0 hnd)
          have hsz : tx.size + nd ≤ 2147483647 := by omega
          have hz : tx.data.toList.length = tx.size := by rw [Array.length_toList]; rfl
          have hll := cut_len tx.data.toList
          have hfc := find_cut tx.data.toList
          clear hrd0 hpk hpl hkl c30 hg hnd
          obtain ⟨A1, cap1, hin, hfr⟩ := HH.out.inn
          have hph : PH w (wr.alloc (.cells #[.string tx, .bool body, .bool broken, .slice Ad nd cd] 59)) p s A1 cap1 wr.heap.size [.string tx, .bool body, .bool broken, .slice Ad nd cd] :=
            ⟨hin.mod ((Mod.refl (fun _ => False) wr).alloc _) fun _ _ h => h, hfr, HH.out.blo.alloc HH.out.blo.size _, Blk.new wr _ 59, fun hh => absurd (hin.lt _ hh) (Nat.lt_irrefl _), HH.out.blo.size⟩
          have HP := Lib.hid (And.intro hph (And.intro HH.out.stands (And.intro HH.out.held HH.out.most)))
          have hblo := HH.out.blo
          clear hin hfr hph HH
          have hat_ : ∃ at_ : Int, (-9223372036854775808 ≤ at_ ∧ at_ ≤ 9223372036854775807) ∧ ((nc ≤ k ∧ at_ = 0) ∨ (k < nc ∧ ∃ gc oc, Ac = some ⟨gc, oc, none⟩ ∧ wr.cell? ⟨gc, oc + k, none⟩ = some (.int .i64 at_))) := by
            by_cases hkc : k < nc
            · have hkl2 : k < cuts.length := by rw [HC.out.2.2]; exact hkc
              obtain ⟨gc, oc, e1, e2⟩ := HC.out.1.at_ k (by simpa using hkl2)
              simp only [List.getElem_map] at e2
              exact ⟨cuts[k], HC.out.2.1 _ (List.getElem_mem _), .inr ⟨hkc, gc, oc, e1, (hblo.cell (p := ⟨gc, oc + k, none⟩) (World.block_lt_of_cell? _ _ e2)).trans e2⟩⟩
            · exact ⟨0, by decide, .inl ⟨by omega, rfl⟩⟩
          obtain ⟨at_, hab, hac⟩ := hat_
          have HA := Lib.hid hab
          have hcut := fun W => cut_calls W tx (by omega)
          have hsaid := fun W b (hr : RdB W Ad nd cd data) => said_calls W tx b broken Ad nd cd data hr (by omega)
          have hsl : ∀ b, (saidL tx.data.toList b broken data).length ≤ 2147483647 + 4 := fun b => by
            have : (endOf broken).length = 2 := by cases broken <;> rfl
            have := HR.out.2
            cases b <;> simp [saidL] <;> omega
          have hse : ∀ b, saidL tx.data.toList b broken data = cut tx.data.toList ++ 13 :: 10 :: (if b then data ++ endOf broken else []) := fun b => by
            cases b <;> simp [saidL]
          simp only [hse] at hsaid hsl
          generalize cut tx.data.toList = line at hcut hfc hll hsaid hsl
          clear hse
          have HS := Lib.hid (And.intro hcut (And.intro hsaid (And.intro hsl hfc)))
          clear hab hcut hsaid hsl hfc
          rcases hac with ⟨hkc, rfl⟩ | ⟨hkc, gc, oc, rfl, hcc⟩
          · skip
            have hdk : decide ((k : Int) < (nc : Int)) = false := by simp; omega
            by_cases hlong : line.length ≤ 222
            · have hd : decide ((222 : Int) < (line.length : Int)) = false := by simp; omega
              cases body
              · -- a line
                go_wp2_with fail
                refine at_world fun W hW => ?_
                have hWe : W = wr.alloc (.cells #[.string tx, .bool false, .bool broken, .slice Ad nd cd] 59) := hW
                have HQ := Lib.hid (hWe ▸ HP.out : PH w W p s A1 cap1 wr.heap.size [.string tx, .bool false, .bool broken, .slice Ad nd cd] ∧ s.stands = 0 ∧ s.held = [] ∧ s.most = max)
                have x0 := HQ.out.1.blk.cell 0
                have x1 := HQ.out.1.blk.cell 1
                have x2 := HQ.out.1.blk.cell 2
                have x3 := HQ.out.1.blk.cell 3
                have f1 := HQ.out.1.blk.frozen 1 (by simp)
                simp only [List.getElem?_cons_zero, List.getElem?_cons_succ] at x0 x1 x2 x3
                clear hWe hW HP c0 c1 c2 c3
                with_reducible refine (HS.out.1 W).mono ?_
                rintro e w' ⟨rfl, rfl⟩
                go_wp2_with fail

                have hrd := HR.out.1.below HQ.out.1.blo
                with_reducible refine (HS.out.2.1 _ _ hrd).mono ?_
                rintro e w3 ⟨v, rfl, B, nB, cB, rfl, hoB, hmB, hBn⟩
                have hlB := hoB.blen
                have hq3 := HQ.out.1.quiet hmB
                have hfB : ∀ k, InB B k → k < w3.heap.size ∧ ¬ foot p A1 k := fun j hj => ⟨hoB.lt j hj, fun hf => absurd (HQ.out.1.inn.lt j hf) (by have := hBn j hj; omega)⟩
                have HQ3 := Lib.hid (And.intro hq3 (And.intro HQ.out.2 (And.intro hoB.rd hfB)))
                have hnB : nB ≤ 2147483651 := by have := HS.out.2.2.1 false; omega
                clear hq3 hoB hmB hBn hfB HQ x0 x1 x2 x3 f1 hrd
                go_wp2_with fail
                with_reducible refine (fed_calls w3 p A1 cap1 s HQ3.out.1.inn HQ3.out.2.1.1 B nB cB _ HQ3.out.2.2.1 HQ3.out.2.2.2 _ HA.out (by rw [HQ3.out.2.1.2.1]; simp; omega)).mono ?_
                rintro e w4 ⟨v, rfl, A2, cap2, rfl, hin4, hm4, hA4⟩
                have hq4 := HQ3.out.1.turn hm4 hin4 hA4
                simp only [HQ3.out.2.1.2.1, List.nil_append, if_true, if_false, Bool.false_eq_true] at hq4 hlB
                have hnx := next_line HQ3.out.2.1.1 line [] HS.out.2.2.2 hlong
                have h04 : ¬ foot p A2 0 := fun hf => by have := hq4.fo 0 hf; have := H.out.2.2.1.pos; omega
                have HQ4 := Lib.hid (And.intro hq4 (And.intro hnx HQ3.out.2.1))
                clear hin4 hm4 hA4 hq4 hnx HQ3
                go_wp2_with fail
                with_reducible refine (Next_calls w4 p A2 cap2 _ HQ4.out.1.inn (by simp only []; omega) (H.out.2.2.1.below HQ4.out.1.blo) h04).mono ?_
                rintro e w5 ⟨v, rfl, hx⟩
                unfold NextPost at hx
                rw [HQ4.out.2.1] at hx
                obtain ⟨A3, cap3, Ab, nb, cb, rfl, hin5, hob, hfb, hm5, hA5⟩ := hx
                have hq5 := HQ4.out.1.turn hm5 hin5 hA5
                simp only [item, Option.getD_some, Option.isSome_some] at hob hq5 ⊢
                have HQ5 := Lib.hid (And.intro hq5 (And.intro HQ4.out.2.2 hob))
                clear hin5 hob hfb hm5 hA5 hq5 HQ4 h04 hlB
                go_wp2_with fail
                refine at_world fun W5 hW5 => ?_
                have hm5 : Mod (fun _ => False) w5 W5 := by
                  rw [hW5]
                  first
                  | exact ((Mod.refl _ w5).alloc _).alloc _
                  | exact (((Mod.refl _ w5).alloc _).alloc _).setCells (fun h => absurd h (by simp)) _ _
                  | exact ((((((Mod.refl _ w5).alloc _).alloc _).setCell (fun h => absurd h (by simp)) _).setCell (fun h => absurd h (by simp)) _).setCell (fun h => absurd h (by simp)) _)
                clear hW5
                have hal := alike_calls W5 1 1 ⟨line.toArray⟩ ⟨line.toArray⟩ Ab none nb 0 cb 0 [] [] (HQ5.out.2.2.rd.mod hm5 fun _ _ h => h) (Rd.nil _ _)
                have hab : alikeB 1 1 ⟨line.toArray⟩ ⟨line.toArray⟩ [] [] = true := by simp [alikeB]
                rw [hab] at hal
                have hq5 := HQ5.out.1.quiet hm5
                have HQ6 := Lib.hid (And.intro hq5 HQ5.out.2.1)
                clear hm5 hab HQ5 hq5
                with_reducible refine hal.mono ?_
                rintro e w6 ⟨rfl, hm6⟩
                have hq6 := HQ6.out.1.quiet hm6
                have x1 := hq6.blk.cell 1
                have x2 := hq6.blk.cell 2
                have x3 := hq6.blk.cell 3
                simp only [List.getElem?_cons_zero, List.getElem?_cons_succ] at x1 x2 x3
                have HQ7 := Lib.hid (And.intro hq6 HQ6.out.2)
                clear hal hm6 hq6 HQ6

                go_wp2_with fail
                go_roundg (n - (k + 1))
                case measure => omega
                case rel => exact ⟨k + 1, _, by omega, rfl, by go_num, ⟨⟨_, _, HQ7.out.1.inn, HQ7.out.1.fo⟩, HQ7.out.1.blo, HQ7.out.2.1, rfl, HQ7.out.2.2.2⟩⟩
              · -- a line and a body
                go_wp2_with fail
                refine at_world fun W hW => ?_
                have hWe : W = wr.alloc (.cells #[.string tx, .bool true, .bool broken, .slice Ad nd cd] 59) := hW
                have HQ := Lib.hid (hWe ▸ HP.out : PH w W p s A1 cap1 wr.heap.size [.string tx, .bool true, .bool broken, .slice Ad nd cd] ∧ s.stands = 0 ∧ s.held = [] ∧ s.most = max)
                have x0 := HQ.out.1.blk.cell 0
                have x1 := HQ.out.1.blk.cell 1
                have x2 := HQ.out.1.blk.cell 2
                have x3 := HQ.out.1.blk.cell 3
                have f1 := HQ.out.1.blk.frozen 1 (by simp)
                simp only [List.getElem?_cons_zero, List.getElem?_cons_succ] at x0 x1 x2 x3
                clear hWe hW HP c0 c1 c2 c3
                with_reducible refine (HS.out.1 W).mono ?_
                rintro e w' ⟨rfl, rfl⟩
                go_wp2_with fail

                have hrd := HR.out.1.below HQ.out.1.blo
                with_reducible refine (HS.out.2.1 _ _ hrd).mono ?_
                rintro e w3 ⟨v, rfl, B, nB, cB, rfl, hoB, hmB, hBn⟩
                have hlB := hoB.blen
                have hq3 := HQ.out.1.quiet hmB
                have hfB : ∀ k, InB B k → k < w3.heap.size ∧ ¬ foot p A1 k := fun j hj => ⟨hoB.lt j hj, fun hf => absurd (HQ.out.1.inn.lt j hf) (by have := hBn j hj; omega)⟩
                have HQ3 := Lib.hid (And.intro hq3 (And.intro HQ.out.2 (And.intro hoB.rd hfB)))
                have hnB : nB ≤ 2147483651 := by have := HS.out.2.2.1 true; omega
                clear hq3 hoB hmB hBn hfB HQ x0 x1 x2 x3 f1 hrd
                go_wp2_with fail
                with_reducible refine (fed_calls w3 p A1 cap1 s HQ3.out.1.inn HQ3.out.2.1.1 B nB cB _ HQ3.out.2.2.1 HQ3.out.2.2.2 _ HA.out (by rw [HQ3.out.2.1.2.1]; simp; omega)).mono ?_
                rintro e w4 ⟨v, rfl, A2, cap2, rfl, hin4, hm4, hA4⟩
                have hq4 := HQ3.out.1.turn hm4 hin4 hA4
                simp only [HQ3.out.2.1.2.1, List.nil_append, if_true, if_false, Bool.false_eq_true] at hq4 hlB
                have hnx := next_line HQ3.out.2.1.1 line (data ++ endOf broken) HS.out.2.2.2 hlong
                have h04 : ¬ foot p A2 0 := fun hf => by have := hq4.fo 0 hf; have := H.out.2.2.1.pos; omega
                have HQ4 := Lib.hid (And.intro hq4 (And.intro hnx HQ3.out.2.1))
                clear hin4 hm4 hA4 hq4 hnx HQ3
                go_wp2_with fail
                with_reducible refine (Next_calls w4 p A2 cap2 _ HQ4.out.1.inn (by simp only []; omega) (H.out.2.2.1.below HQ4.out.1.blo) h04).mono ?_
                rintro e w5 ⟨v, rfl, hx⟩
                unfold NextPost at hx
                rw [HQ4.out.2.1] at hx
                obtain ⟨A3, cap3, Ab, nb, cb, rfl, hin5, hob, hfb, hm5, hA5⟩ := hx
                have hq5 := HQ4.out.1.turn hm5 hin5 hA5
                simp only [item, Option.getD_some, Option.isSome_some] at hob hq5 ⊢
                have HQ5 := Lib.hid (And.intro hq5 (And.intro HQ4.out.2.2 hob))
                clear hin5 hob hfb hm5 hA5 hq5 HQ4 h04 hlB
                go_wp2_with fail
                refine at_world fun W5 hW5 => ?_
                have hm5 : Mod (fun _ => False) w5 W5 := by
                  rw [hW5]
                  first
                  | exact ((Mod.refl _ w5).alloc _).alloc _
                  | exact (((Mod.refl _ w5).alloc _).alloc _).setCells (fun h => absurd h (by simp)) _ _
                  | exact ((((((Mod.refl _ w5).alloc _).alloc _).setCell (fun h => absurd h (by simp)) _).setCell (fun h => absurd h (by simp)) _).setCell (fun h => absurd h (by simp)) _)
                clear hW5
                have hal := alike_calls W5 1 1 ⟨line.toArray⟩ ⟨line.toArray⟩ Ab none nb 0 cb 0 [] [] (HQ5.out.2.2.rd.mod hm5 fun _ _ h => h) (Rd.nil _ _)
                have hab : alikeB 1 1 ⟨line.toArray⟩ ⟨line.toArray⟩ [] [] = true := by simp [alikeB]
                rw [hab] at hal
                have hq5 := HQ5.out.1.quiet hm5
                have HQ6 := Lib.hid (And.intro hq5 HQ5.out.2.1)
                clear hm5 hab HQ5 hq5
                with_reducible refine hal.mono ?_
                rintro e w6 ⟨rfl, hm6⟩
                have hq6 := HQ6.out.1.quiet hm6
                have x1 := hq6.blk.cell 1
                have x2 := hq6.blk.cell 2
                have x3 := hq6.blk.cell 3
                simp only [List.getElem?_cons_zero, List.getElem?_cons_succ] at x1 x2 x3
                have HQ7 := Lib.hid (And.intro hq6 HQ6.out.2)
                clear hal hm6 hq6 HQ6
                have hnd := HR.out.2
                have hle2 : (data ++ endOf broken).length = nd + 2 := by
                  have : (endOf broken).length = 2 := by cases broken <;> rfl
                  rw [List.length_append, this, hnd]
                by_cases hbig : (nd : Int) ≤ max
                · have hdm : decide (max < (nd : Int)) = false := by simp; omega
                  have hbs : body ⟨s.most, s.stands, data ++ endOf broken, s.size, s.left, s.half, s.ended⟩ (nd : Int) = (⟨s.most, 2, data ++ endOf broken, nd, s.left, s.half, s.ended⟩, 0) :=
                    body_small (s := { s with held := data ++ endOf broken }) HQ7.out.2.1 nd (by omega) (by omega) (by rw [← HQ7.out.2.2.2] at hbig; exact hbig)
                  cases broken
                  · have hnx : next ⟨s.most, 2, data ++ endOf false, nd, s.left, s.half, s.ended⟩ = (⟨s.most, 0, [], nd, s.left, s.half, s.ended⟩, some (item 3 [] data)) := next_body (s := ⟨s.most, 2, [], nd, s.left, s.half, s.ended⟩) data false rfl (by simp only []; omega)
                    have HN := Lib.hid (And.intro hbs (And.intro hnx hle2))
                    clear hbs hnx
                    go_wp2_with fail
                    with_reducible refine (Body_calls w6 p A3 cap3 _ HQ7.out.1.inn nd (by omega) (by simp only []; omega)).mono ?_
                    rintro e w7 ⟨v, rfl, hx⟩
                    unfold BodyPost at hx
                    rw [HN.out.1] at hx
                    obtain ⟨A4, cap4, rfl, hin7, hm7, hA7⟩ := hx
                    have hq7 := HQ7.out.1.turn (hm7.mono fun i _ h => .inl h) hin7 (fun j hj => .inl (hA7 j hj))
                    have h04 : ¬ foot p A4 0 := fun hf => by have := hq7.fo 0 hf; have := H.out.2.2.1.pos; omega
                    have HQ8 := Lib.hid (And.intro hq7 HQ7.out.2)
                    clear hin7 hm7 hA7 hq7 HQ7 x1 x2 x3
                    go_wp2_with fail
                    with_reducible refine (Next_calls w7 p A4 cap4 _ HQ8.out.1.inn (by first | (have := HN.out.2.2; simp only []; omega) | simp) (H.out.2.2.1.below HQ8.out.1.blo) h04).mono ?_
                    rintro e w8 ⟨v, rfl, hx⟩
                    unfold NextPost at hx
                    rw [HN.out.2.1] at hx
                    obtain ⟨A5, cap5, Ae, ne, ce, rfl, hin8, hob, hfb, hm8, hA8⟩ := hx
                    have hq8 := HQ8.out.1.turn hm8 hin8 hA8
                    simp only [item, Option.getD_some, Option.isSome_some] at hob hq8 ⊢
                    have x1 := hq8.blk.cell 1
                    have x2 := hq8.blk.cell 2
                    have x3 := hq8.blk.cell 3
                    have hbl := hq8.blk.lt
                    simp only [List.getElem?_cons_zero, List.getElem?_cons_succ] at x1 x2 x3
                    have HQ9 := Lib.hid (And.intro hq8 (And.intro HQ8.out.2 hob))
                    clear hin8 hob hfb hm8 hA8 hq8 HQ8 h04 hle2
                    go_wp2_with fail
                    refine at_world fun W5 hW5 => ?_
                    have hm5 : Mod (fun _ => False) w8 W5 := by
                      rw [hW5]
                      first
                      | exact ((Mod.refl _ w8).alloc _).alloc _
                      | exact (((Mod.refl _ w8).alloc _).alloc _).setCells (fun h => absurd h (by simp)) _ _
                      | exact ((((((Mod.refl _ w8).alloc _).alloc _).setCell (fun h => absurd h (by simp)) _).setCell (fun h => absurd h (by simp)) _).setCell (fun h => absurd h (by simp)) _)
                    clear hW5
                    have hq5 := HQ9.out.1.quiet hm5
                    have hal := alike_calls W5 3 3 ⟨#[]⟩ ⟨#[]⟩ Ae Ad ne nd ce cd data data (HQ9.out.2.2.rd.mod hm5 fun _ _ h => h) (HR.out.1.below hq5.blo)
                    have hab : alikeB 3 3 ⟨#[]⟩ ⟨#[]⟩ data data = true := by simp [alikeB]
                    rw [hab] at hal
                    have HQA := Lib.hid (And.intro hq5 HQ9.out.2.1)
                    clear hm5 hab HQ9 hq5 x1 x2 x3
                    with_reducible refine hal.mono ?_
                    rintro e w9 ⟨rfl, hm9⟩
                    have HQB := Lib.hid (And.intro (HQA.out.1.quiet hm9) HQA.out.2)
                    clear hal hm9 HQA
                    go_wp2_with fail
                    go_roundg (n - (k + 1))
                    case measure => omega
                    case rel => exact ⟨k + 1, _, by omega, rfl, by go_num, ⟨⟨_, _, HQB.out.1.inn, HQB.out.1.fo⟩, HQB.out.1.blo, rfl, rfl, HQB.out.2.2.2⟩⟩
                  · have hnx : next ⟨s.most, 2, data ++ endOf true, nd, s.left, s.half, s.ended⟩ = (⟨s.most, 0, [], nd, s.left, s.half, s.ended⟩, some (item 5 [] [])) := next_body (s := ⟨s.most, 2, [], nd, s.left, s.half, s.ended⟩) data true rfl (by simp only []; omega)
                    have HN := Lib.hid (And.intro hbs (And.intro hnx hle2))
                    clear hbs hnx
                    go_wp2_with fail
                    with_reducible refine (Body_calls w6 p A3 cap3 _ HQ7.out.1.inn nd (by omega) (by simp only []; omega)).mono ?_
                    rintro e w7 ⟨v, rfl, hx⟩
                    unfold BodyPost at hx
                    rw [HN.out.1] at hx
                    obtain ⟨A4, cap4, rfl, hin7, hm7, hA7⟩ := hx
                    have hq7 := HQ7.out.1.turn (hm7.mono fun i _ h => .inl h) hin7 (fun j hj => .inl (hA7 j hj))
                    have h04 : ¬ foot p A4 0 := fun hf => by have := hq7.fo 0 hf; have := H.out.2.2.1.pos; omega
                    have HQ8 := Lib.hid (And.intro hq7 HQ7.out.2)
                    clear hin7 hm7 hA7 hq7 HQ7 x1 x2 x3
                    go_wp2_with fail
                    with_reducible refine (Next_calls w7 p A4 cap4 _ HQ8.out.1.inn (by first | (have := HN.out.2.2; simp only []; omega) | simp) (H.out.2.2.1.below HQ8.out.1.blo) h04).mono ?_
                    rintro e w8 ⟨v, rfl, hx⟩
                    unfold NextPost at hx
                    rw [HN.out.2.1] at hx
                    obtain ⟨A5, cap5, Ae, ne, ce, rfl, hin8, hob, hfb, hm8, hA8⟩ := hx
                    have hq8 := HQ8.out.1.turn hm8 hin8 hA8
                    simp only [item, Option.getD_some, Option.isSome_some] at hob hq8 ⊢
                    have x1 := hq8.blk.cell 1
                    have x2 := hq8.blk.cell 2
                    have x3 := hq8.blk.cell 3
                    have hbl := hq8.blk.lt
                    simp only [List.getElem?_cons_zero, List.getElem?_cons_succ] at x1 x2 x3
                    have HQ9 := Lib.hid (And.intro hq8 (And.intro HQ8.out.2 hob))
                    clear hin8 hob hfb hm8 hA8 hq8 HQ8 h04 hle2
                    go_wp2_with fail
                    refine at_world fun W5 hW5 => ?_
                    have hm5 : Mod (fun _ => False) w8 W5 := by
                      rw [hW5]
                      first
                      | exact ((Mod.refl _ w8).alloc _).alloc _
                      | exact (((Mod.refl _ w8).alloc _).alloc _).setCells (fun h => absurd h (by simp)) _ _
                      | exact ((((((Mod.refl _ w8).alloc _).alloc _).setCell (fun h => absurd h (by simp)) _).setCell (fun h => absurd h (by simp)) _).setCell (fun h => absurd h (by simp)) _)
                    clear hW5
                    have hq5 := HQ9.out.1.quiet hm5
                    have hal := alike_calls W5 5 5 ⟨#[]⟩ ⟨#[]⟩ Ae none ne 0 ce 0 [] [] (HQ9.out.2.2.rd.mod hm5 fun _ _ h => h) (Rd.nil _ _)
                    have hab : alikeB 5 5 ⟨#[]⟩ ⟨#[]⟩ [] [] = true := by simp [alikeB]
                    rw [hab] at hal
                    have HQA := Lib.hid (And.intro hq5 HQ9.out.2.1)
                    clear hm5 hab HQ9 hq5 x1 x2 x3
                    with_reducible refine hal.mono ?_
                    rintro e w9 ⟨rfl, hm9⟩
                    have HQB := Lib.hid (And.intro (HQA.out.1.quiet hm9) HQA.out.2)
                    clear hal hm9 HQA
                    go_wp2_with fail
                    go_roundg (n - (k + 1))
                    case measure => omega
                    case rel => exact ⟨k + 1, _, by omega, rfl, by go_num, ⟨⟨_, _, HQB.out.1.inn, HQB.out.1.fo⟩, HQB.out.1.blo, rfl, rfl, HQB.out.2.2.2⟩⟩
                · have hdm : decide (max < (nd : Int)) = true := by simp; omega
                  have hbs : body ⟨s.most, s.stands, data ++ endOf broken, s.size, s.left, s.half, s.ended⟩ (nd : Int) = (⟨s.most, 3, [], s.size, 0, s.half, s.ended⟩, 0) := by
                    rw [← hnd]
                    exact body_big (s := s) HQ7.out.2.1 data broken (by omega) (by rw [HQ7.out.2.2.2]; omega)
                  have hnx : next ⟨s.most, 3, [], s.size, 0, s.half, s.ended⟩ = (⟨s.most, 0, [], s.size, 0, s.half, s.ended⟩, some (item 4 [] [])) := next_big (s := ⟨s.most, 3, [], s.size, 0, s.half, s.ended⟩) rfl rfl
                  have HN := Lib.hid (And.intro hbs (And.intro hnx hle2))
                  clear hbs hnx
                  go_wp2_with fail
                  with_reducible refine (Body_calls w6 p A3 cap3 _ HQ7.out.1.inn nd (by omega) (by simp only []; omega)).mono ?_
                  rintro e w7 ⟨v, rfl, hx⟩
                  unfold BodyPost at hx
                  rw [HN.out.1] at hx
                  obtain ⟨A4, cap4, rfl, hin7, hm7, hA7⟩ := hx
                  have hq7 := HQ7.out.1.turn (hm7.mono fun i _ h => .inl h) hin7 (fun j hj => .inl (hA7 j hj))
                  have h04 : ¬ foot p A4 0 := fun hf => by have := hq7.fo 0 hf; have := H.out.2.2.1.pos; omega
                  have HQ8 := Lib.hid (And.intro hq7 HQ7.out.2)
                  clear hin7 hm7 hA7 hq7 HQ7 x1 x2 x3
                  go_wp2_with fail
                  with_reducible refine (Next_calls w7 p A4 cap4 _ HQ8.out.1.inn (by first | (have := HN.out.2.2; simp only []; omega) | simp) (H.out.2.2.1.below HQ8.out.1.blo) h04).mono ?_
                  rintro e w8 ⟨v, rfl, hx⟩
                  unfold NextPost at hx
                  rw [HN.out.2.1] at hx
                  obtain ⟨A5, cap5, Ae, ne, ce, rfl, hin8, hob, hfb, hm8, hA8⟩ := hx
                  have hq8 := HQ8.out.1.turn hm8 hin8 hA8
                  simp only [item, Option.getD_some, Option.isSome_some] at hob hq8 ⊢
                  have x1 := hq8.blk.cell 1
                  have x2 := hq8.blk.cell 2
                  have x3 := hq8.blk.cell 3
                  have hbl := hq8.blk.lt
                  simp only [List.getElem?_cons_zero, List.getElem?_cons_succ] at x1 x2 x3
                  have HQ9 := Lib.hid (And.intro hq8 (And.intro HQ8.out.2 hob))
                  clear hin8 hob hfb hm8 hA8 hq8 HQ8 h04 hle2
                  go_wp2_with fail
                  refine at_world fun W5 hW5 => ?_
                  have hm5 : Mod (fun _ => False) w8 W5 := by
                    rw [hW5]
                    first
                    | exact ((Mod.refl _ w8).alloc _).alloc _
                    | exact (((Mod.refl _ w8).alloc _).alloc _).setCells (fun h => absurd h (by simp)) _ _
                    | exact ((((((Mod.refl _ w8).alloc _).alloc _).setCell (fun h => absurd h (by simp)) _).setCell (fun h => absurd h (by simp)) _).setCell (fun h => absurd h (by simp)) _)
                  clear hW5
                  have hq5 := HQ9.out.1.quiet hm5
                  have hal := alike_calls W5 4 4 ⟨#[]⟩ ⟨#[]⟩ Ae none ne 0 ce 0 [] [] (HQ9.out.2.2.rd.mod hm5 fun _ _ h => h) (Rd.nil _ _)
                  have hab : alikeB 4 4 ⟨#[]⟩ ⟨#[]⟩ [] [] = true := by simp [alikeB]
                  rw [hab] at hal
                  have HQA := Lib.hid (And.intro hq5 HQ9.out.2.1)
                  clear hm5 hab HQ9 hq5 x1 x2 x3
                  with_reducible refine hal.mono ?_
                  rintro e w9 ⟨rfl, hm9⟩
                  have HQB := Lib.hid (And.intro (HQA.out.1.quiet hm9) HQA.out.2)
                  clear hal hm9 HQA
                  go_wp2_with fail
                  go_roundg (n - (k + 1))
                  case measure => omega
                  case rel => exact ⟨k + 1, _, by omega, rfl, by go_num, ⟨⟨_, _, HQB.out.1.inn, HQB.out.1.fo⟩, HQB.out.1.blo, rfl, rfl, HQB.out.2.2.2⟩⟩
            · have hd : decide ((222 : Int) < (line.length : Int)) = true := by simp; omega
              cases body
              · -- a long line
                go_wp2_with fail
                refine at_world fun W hW => ?_
                have hWe : W = wr.alloc (.cells #[.string tx, .bool false, .bool broken, .slice Ad nd cd] 59) := hW
                have HQ := Lib.hid (hWe ▸ HP.out : PH w W p s A1 cap1 wr.heap.size [.string tx, .bool false, .bool broken, .slice Ad nd cd] ∧ s.stands = 0 ∧ s.held = [] ∧ s.most = max)
                have x0 := HQ.out.1.blk.cell 0
                have x1 := HQ.out.1.blk.cell 1
                have x2 := HQ.out.1.blk.cell 2
                have x3 := HQ.out.1.blk.cell 3
                have f1 := HQ.out.1.blk.frozen 1 (by simp)
                simp only [List.getElem?_cons_zero, List.getElem?_cons_succ] at x0 x1 x2 x3
                clear hWe hW HP c0 c1 c2 c3
                with_reducible refine (HS.out.1 W).mono ?_
                rintro e w' ⟨rfl, rfl⟩
                go_wp2_with fail

                have hrd := HR.out.1.below HQ.out.1.blo
                with_reducible refine (HS.out.2.1 _ _ hrd).mono ?_
                rintro e w3 ⟨v, rfl, B, nB, cB, rfl, hoB, hmB, hBn⟩
                have hlB := hoB.blen
                have hq3 := HQ.out.1.quiet hmB
                have hfB : ∀ k, InB B k → k < w3.heap.size ∧ ¬ foot p A1 k := fun j hj => ⟨hoB.lt j hj, fun hf => absurd (HQ.out.1.inn.lt j hf) (by have := hBn j hj; omega)⟩
                have HQ3 := Lib.hid (And.intro hq3 (And.intro HQ.out.2 (And.intro hoB.rd hfB)))
                have hnB : nB ≤ 2147483651 := by have := HS.out.2.2.1 false; omega
                clear hq3 hoB hmB hBn hfB HQ x0 x1 x2 x3 f1 hrd
                go_wp2_with fail
                with_reducible refine (fed_calls w3 p A1 cap1 s HQ3.out.1.inn HQ3.out.2.1.1 B nB cB _ HQ3.out.2.2.1 HQ3.out.2.2.2 _ HA.out (by rw [HQ3.out.2.1.2.1]; simp; omega)).mono ?_
                rintro e w4 ⟨v, rfl, A2, cap2, rfl, hin4, hm4, hA4⟩
                have hq4 := HQ3.out.1.turn hm4 hin4 hA4
                simp only [HQ3.out.2.1.2.1, List.nil_append, if_true, if_false, Bool.false_eq_true] at hq4 hlB
                have hnx := next_long HQ3.out.2.1.1 line HS.out.2.2.2 (by omega)
                have h04 : ¬ foot p A2 0 := fun hf => by have := hq4.fo 0 hf; have := H.out.2.2.1.pos; omega
                have HQ4 := Lib.hid (And.intro hq4 (And.intro hnx HQ3.out.2.1))
                clear hin4 hm4 hA4 hq4 hnx HQ3
                go_wp2_with fail
                with_reducible refine (Next_calls w4 p A2 cap2 _ HQ4.out.1.inn (by simp only []; omega) (H.out.2.2.1.below HQ4.out.1.blo) h04).mono ?_
                rintro e w5 ⟨v, rfl, hx⟩
                unfold NextPost at hx
                rw [HQ4.out.2.1] at hx
                obtain ⟨A3, cap3, Ab, nb, cb, rfl, hin5, hob, hfb, hm5, hA5⟩ := hx
                have hq5 := HQ4.out.1.turn hm5 hin5 hA5
                simp only [item, Option.getD_some, Option.isSome_some] at hob hq5 ⊢
                have HQ5 := Lib.hid (And.intro hq5 (And.intro HQ4.out.2.2 hob))
                clear hin5 hob hfb hm5 hA5 hq5 HQ4 h04 hlB
                go_wp2_with fail
                refine at_world fun W5 hW5 => ?_
                have hm5 : Mod (fun _ => False) w5 W5 := by
                  rw [hW5]
                  first
                  | exact ((Mod.refl _ w5).alloc _).alloc _
                  | exact (((Mod.refl _ w5).alloc _).alloc _).setCells (fun h => absurd h (by simp)) _ _
                  | exact ((((((Mod.refl _ w5).alloc _).alloc _).setCell (fun h => absurd h (by simp)) _).setCell (fun h => absurd h (by simp)) _).setCell (fun h => absurd h (by simp)) _)
                clear hW5
                have hal := alike_calls W5 2 2 ⟨#[]⟩ ⟨#[]⟩ Ab none nb 0 cb 0 [] [] (HQ5.out.2.2.rd.mod hm5 fun _ _ h => h) (Rd.nil _ _)
                have hab : alikeB 2 2 ⟨#[]⟩ ⟨#[]⟩ [] [] = true := by simp [alikeB]
                rw [hab] at hal
                have hq5 := HQ5.out.1.quiet hm5
                have HQ6 := Lib.hid (And.intro hq5 HQ5.out.2.1)
                clear hm5 hab HQ5 hq5
                with_reducible refine hal.mono ?_
                rintro e w6 ⟨rfl, hm6⟩
                have hq6 := HQ6.out.1.quiet hm6
                have x1 := hq6.blk.cell 1
                have x2 := hq6.blk.cell 2
                have x3 := hq6.blk.cell 3
                simp only [List.getElem?_cons_zero, List.getElem?_cons_succ] at x1 x2 x3
                have HQ7 := Lib.hid (And.intro hq6 HQ6.out.2)
                clear hal hm6 hq6 HQ6

                go_wp2_with fail
                go_roundg (n - (k + 1))
                case measure => omega
                case rel => exact ⟨k + 1, _, by omega, rfl, by go_num, ⟨⟨_, _, HQ7.out.1.inn, HQ7.out.1.fo⟩, HQ7.out.1.blo, HQ7.out.2.1, rfl, HQ7.out.2.2.2⟩⟩
              · -- a long line, its body let go
                go_wp2_with fail
                refine at_world fun W hW => ?_
                have hWe : W = wr.alloc (.cells #[.string tx, .bool true, .bool broken, .slice Ad nd cd] 59) := hW
                have HQ := Lib.hid (hWe ▸ HP.out : PH w W p s A1 cap1 wr.heap.size [.string tx, .bool true, .bool broken, .slice Ad nd cd] ∧ s.stands = 0 ∧ s.held = [] ∧ s.most = max)
                have x0 := HQ.out.1.blk.cell 0
                have x1 := HQ.out.1.blk.cell 1
                have x2 := HQ.out.1.blk.cell 2
                have x3 := HQ.out.1.blk.cell 3
                have f1 := HQ.out.1.blk.frozen 1 (by simp)
                simp only [List.getElem?_cons_zero, List.getElem?_cons_succ] at x0 x1 x2 x3
                clear hWe hW HP c0 c1 c2 c3
                with_reducible refine (HS.out.1 W).mono ?_
                rintro e w' ⟨rfl, rfl⟩
                go_wp2_with fail

                refine at_world fun W2 hW2 => ?_
                have hs2 := HQ.out.1.store 1 (.bool false)
                rw [show W.setCell ⟨wr.heap.size, 1, none⟩ (.bool false) = W2 from hW2.symm] at hs2
                simp only [List.set_cons_succ, List.set_cons_zero] at hs2
                have HQ2 := Lib.hid (And.intro hs2 HQ.out.2)
                clear HQ hs2 hW2
                have HQ := HQ2
                clear HQ2

                have hrd := HR.out.1.below HQ.out.1.blo
                with_reducible refine (HS.out.2.1 _ _ hrd).mono ?_
                rintro e w3 ⟨v, rfl, B, nB, cB, rfl, hoB, hmB, hBn⟩
                have hlB := hoB.blen
                have hq3 := HQ.out.1.quiet hmB
                have hfB : ∀ k, InB B k → k < w3.heap.size ∧ ¬ foot p A1 k := fun j hj => ⟨hoB.lt j hj, fun hf => absurd (HQ.out.1.inn.lt j hf) (by have := hBn j hj; omega)⟩
                have HQ3 := Lib.hid (And.intro hq3 (And.intro HQ.out.2 (And.intro hoB.rd hfB)))
                have hnB : nB ≤ 2147483651 := by have := HS.out.2.2.1 false; omega
                clear hq3 hoB hmB hBn hfB HQ x0 x1 x2 x3 f1 hrd
                go_wp2_with fail
                with_reducible refine (fed_calls w3 p A1 cap1 s HQ3.out.1.inn HQ3.out.2.1.1 B nB cB _ HQ3.out.2.2.1 HQ3.out.2.2.2 _ HA.out (by rw [HQ3.out.2.1.2.1]; simp; omega)).mono ?_
                rintro e w4 ⟨v, rfl, A2, cap2, rfl, hin4, hm4, hA4⟩
                have hq4 := HQ3.out.1.turn hm4 hin4 hA4
                simp only [HQ3.out.2.1.2.1, List.nil_append, if_true, if_false, Bool.false_eq_true] at hq4 hlB
                have hnx := next_long HQ3.out.2.1.1 line HS.out.2.2.2 (by omega)
                have h04 : ¬ foot p A2 0 := fun hf => by have := hq4.fo 0 hf; have := H.out.2.2.1.pos; omega
                have HQ4 := Lib.hid (And.intro hq4 (And.intro hnx HQ3.out.2.1))
                clear hin4 hm4 hA4 hq4 hnx HQ3
                go_wp2_with fail
                with_reducible refine (Next_calls w4 p A2 cap2 _ HQ4.out.1.inn (by simp only []; omega) (H.out.2.2.1.below HQ4.out.1.blo) h04).mono ?_
                rintro e w5 ⟨v, rfl, hx⟩
                unfold NextPost at hx
                rw [HQ4.out.2.1] at hx
                obtain ⟨A3, cap3, Ab, nb, cb, rfl, hin5, hob, hfb, hm5, hA5⟩ := hx
                have hq5 := HQ4.out.1.turn hm5 hin5 hA5
                simp only [item, Option.getD_some, Option.isSome_some] at hob hq5 ⊢
                have HQ5 := Lib.hid (And.intro hq5 (And.intro HQ4.out.2.2 hob))
                clear hin5 hob hfb hm5 hA5 hq5 HQ4 h04 hlB
                go_wp2_with fail
                refine at_world fun W5 hW5 => ?_
                have hm5 : Mod (fun _ => False) w5 W5 := by
                  rw [hW5]
                  first
                  | exact ((Mod.refl _ w5).alloc _).alloc _
                  | exact (((Mod.refl _ w5).alloc _).alloc _).setCells (fun h => absurd h (by simp)) _ _
                  | exact ((((((Mod.refl _ w5).alloc _).alloc _).setCell (fun h => absurd h (by simp)) _).setCell (fun h => absurd h (by simp)) _).setCell (fun h => absurd h (by simp)) _)
                clear hW5
                have hal := alike_calls W5 2 2 ⟨#[]⟩ ⟨#[]⟩ Ab none nb 0 cb 0 [] [] (HQ5.out.2.2.rd.mod hm5 fun _ _ h => h) (Rd.nil _ _)
                have hab : alikeB 2 2 ⟨#[]⟩ ⟨#[]⟩ [] [] = true := by simp [alikeB]
                rw [hab] at hal
                have hq5 := HQ5.out.1.quiet hm5
                have HQ6 := Lib.hid (And.intro hq5 HQ5.out.2.1)
                clear hm5 hab HQ5 hq5
                with_reducible refine hal.mono ?_
                rintro e w6 ⟨rfl, hm6⟩
                have hq6 := HQ6.out.1.quiet hm6
                have x1 := hq6.blk.cell 1
                have x2 := hq6.blk.cell 2
                have x3 := hq6.blk.cell 3
                simp only [List.getElem?_cons_zero, List.getElem?_cons_succ] at x1 x2 x3
                have HQ7 := Lib.hid (And.intro hq6 HQ6.out.2)
                clear hal hm6 hq6 HQ6

                go_wp2_with fail
                go_roundg (n - (k + 1))
                case measure => omega
                case rel => exact ⟨k + 1, _, by omega, rfl, by go_num, ⟨⟨_, _, HQ7.out.1.inn, HQ7.out.1.fo⟩, HQ7.out.1.blo, HQ7.out.2.1, rfl, HQ7.out.2.2.2⟩⟩
          · skip
            have hdk : decide ((k : Int) < (nc : Int)) = true := by simp; omega
            have hgc := World.block_lt_of_cell? _ _ hcc
            by_cases hlong : line.length ≤ 222
            · have hd : decide ((222 : Int) < (line.length : Int)) = false := by simp; omega
              cases body
              · -- a line
                go_wp2_with fail
                refine at_world fun W hW => ?_
                have hWe : W = wr.alloc (.cells #[.string tx, .bool false, .bool broken, .slice Ad nd cd] 59) := hW
                have HQ := Lib.hid (hWe ▸ HP.out : PH w W p s A1 cap1 wr.heap.size [.string tx, .bool false, .bool broken, .slice Ad nd cd] ∧ s.stands = 0 ∧ s.held = [] ∧ s.most = max)
                have x0 := HQ.out.1.blk.cell 0
                have x1 := HQ.out.1.blk.cell 1
                have x2 := HQ.out.1.blk.cell 2
                have x3 := HQ.out.1.blk.cell 3
                have f1 := HQ.out.1.blk.frozen 1 (by simp)
                simp only [List.getElem?_cons_zero, List.getElem?_cons_succ] at x0 x1 x2 x3
                clear hWe hW HP c0 c1 c2 c3
                with_reducible refine (HS.out.1 W).mono ?_
                rintro e w' ⟨rfl, rfl⟩
                go_wp2_with fail

                have hrd := HR.out.1.below HQ.out.1.blo
                with_reducible refine (HS.out.2.1 _ _ hrd).mono ?_
                rintro e w3 ⟨v, rfl, B, nB, cB, rfl, hoB, hmB, hBn⟩
                have hlB := hoB.blen
                have hq3 := HQ.out.1.quiet hmB
                have hfB : ∀ k, InB B k → k < w3.heap.size ∧ ¬ foot p A1 k := fun j hj => ⟨hoB.lt j hj, fun hf => absurd (HQ.out.1.inn.lt j hf) (by have := hBn j hj; omega)⟩
                have HQ3 := Lib.hid (And.intro hq3 (And.intro HQ.out.2 (And.intro hoB.rd hfB)))
                have hnB : nB ≤ 2147483651 := by have := HS.out.2.2.1 false; omega
                clear hq3 hoB hmB hBn hfB HQ x0 x1 x2 x3 f1 hrd
                go_wp2_with fail
                with_reducible refine (fed_calls w3 p A1 cap1 s HQ3.out.1.inn HQ3.out.2.1.1 B nB cB _ HQ3.out.2.2.1 HQ3.out.2.2.2 _ HA.out (by rw [HQ3.out.2.1.2.1]; simp; omega)).mono ?_
                rintro e w4 ⟨v, rfl, A2, cap2, rfl, hin4, hm4, hA4⟩
                have hq4 := HQ3.out.1.turn hm4 hin4 hA4
                simp only [HQ3.out.2.1.2.1, List.nil_append, if_true, if_false, Bool.false_eq_true] at hq4 hlB
                have hnx := next_line HQ3.out.2.1.1 line [] HS.out.2.2.2 hlong
                have h04 : ¬ foot p A2 0 := fun hf => by have := hq4.fo 0 hf; have := H.out.2.2.1.pos; omega
                have HQ4 := Lib.hid (And.intro hq4 (And.intro hnx HQ3.out.2.1))
                clear hin4 hm4 hA4 hq4 hnx HQ3
                go_wp2_with fail
                with_reducible refine (Next_calls w4 p A2 cap2 _ HQ4.out.1.inn (by simp only []; omega) (H.out.2.2.1.below HQ4.out.1.blo) h04).mono ?_
                rintro e w5 ⟨v, rfl, hx⟩
                unfold NextPost at hx
                rw [HQ4.out.2.1] at hx
                obtain ⟨A3, cap3, Ab, nb, cb, rfl, hin5, hob, hfb, hm5, hA5⟩ := hx
                have hq5 := HQ4.out.1.turn hm5 hin5 hA5
                simp only [item, Option.getD_some, Option.isSome_some] at hob hq5 ⊢
                have HQ5 := Lib.hid (And.intro hq5 (And.intro HQ4.out.2.2 hob))
                clear hin5 hob hfb hm5 hA5 hq5 HQ4 h04 hlB
                go_wp2_with fail
                refine at_world fun W5 hW5 => ?_
                have hm5 : Mod (fun _ => False) w5 W5 := by
                  rw [hW5]
                  first
                  | exact ((Mod.refl _ w5).alloc _).alloc _
                  | exact (((Mod.refl _ w5).alloc _).alloc _).setCells (fun h => absurd h (by simp)) _ _
                  | exact ((((((Mod.refl _ w5).alloc _).alloc _).setCell (fun h => absurd h (by simp)) _).setCell (fun h => absurd h (by simp)) _).setCell (fun h => absurd h (by simp)) _)
                clear hW5
                have hal := alike_calls W5 1 1 ⟨line.toArray⟩ ⟨line.toArray⟩ Ab none nb 0 cb 0 [] [] (HQ5.out.2.2.rd.mod hm5 fun _ _ h => h) (Rd.nil _ _)
                have hab : alikeB 1 1 ⟨line.toArray⟩ ⟨line.toArray⟩ [] [] = true := by simp [alikeB]
                rw [hab] at hal
                have hq5 := HQ5.out.1.quiet hm5
                have HQ6 := Lib.hid (And.intro hq5 HQ5.out.2.1)
                clear hm5 hab HQ5 hq5
                with_reducible refine hal.mono ?_
                rintro e w6 ⟨rfl, hm6⟩
                have hq6 := HQ6.out.1.quiet hm6
                have x1 := hq6.blk.cell 1
                have x2 := hq6.blk.cell 2
                have x3 := hq6.blk.cell 3
                simp only [List.getElem?_cons_zero, List.getElem?_cons_succ] at x1 x2 x3
                have HQ7 := Lib.hid (And.intro hq6 HQ6.out.2)
                clear hal hm6 hq6 HQ6

                go_wp2_with fail
                go_roundg (n - (k + 1))
                case measure => omega
                case rel => exact ⟨k + 1, _, by omega, rfl, by go_num, ⟨⟨_, _, HQ7.out.1.inn, HQ7.out.1.fo⟩, HQ7.out.1.blo, HQ7.out.2.1, rfl, HQ7.out.2.2.2⟩⟩
              · -- a line and a body
                go_wp2_with fail
                refine at_world fun W hW => ?_
                have hWe : W = wr.alloc (.cells #[.string tx, .bool true, .bool broken, .slice Ad nd cd] 59) := hW
                have HQ := Lib.hid (hWe ▸ HP.out : PH w W p s A1 cap1 wr.heap.size [.string tx, .bool true, .bool broken, .slice Ad nd cd] ∧ s.stands = 0 ∧ s.held = [] ∧ s.most = max)
                have x0 := HQ.out.1.blk.cell 0
                have x1 := HQ.out.1.blk.cell 1
                have x2 := HQ.out.1.blk.cell 2
                have x3 := HQ.out.1.blk.cell 3
                have f1 := HQ.out.1.blk.frozen 1 (by simp)
                simp only [List.getElem?_cons_zero, List.getElem?_cons_succ] at x0 x1 x2 x3
                clear hWe hW HP c0 c1 c2 c3
                with_reducible refine (HS.out.1 W).mono ?_
                rintro e w' ⟨rfl, rfl⟩
                go_wp2_with fail

                have hrd := HR.out.1.below HQ.out.1.blo
                with_reducible refine (HS.out.2.1 _ _ hrd).mono ?_
                rintro e w3 ⟨v, rfl, B, nB, cB, rfl, hoB, hmB, hBn⟩
                have hlB := hoB.blen
                have hq3 := HQ.out.1.quiet hmB
                have hfB : ∀ k, InB B k → k < w3.heap.size ∧ ¬ foot p A1 k := fun j hj => ⟨hoB.lt j hj, fun hf => absurd (HQ.out.1.inn.lt j hf) (by have := hBn j hj; omega)⟩
                have HQ3 := Lib.hid (And.intro hq3 (And.intro HQ.out.2 (And.intro hoB.rd hfB)))
                have hnB : nB ≤ 2147483651 := by have := HS.out.2.2.1 true; omega
                clear hq3 hoB hmB hBn hfB HQ x0 x1 x2 x3 f1 hrd
                go_wp2_with fail
                with_reducible refine (fed_calls w3 p A1 cap1 s HQ3.out.1.inn HQ3.out.2.1.1 B nB cB _ HQ3.out.2.2.1 HQ3.out.2.2.2 _ HA.out (by rw [HQ3.out.2.1.2.1]; simp; omega)).mono ?_
                rintro e w4 ⟨v, rfl, A2, cap2, rfl, hin4, hm4, hA4⟩
                have hq4 := HQ3.out.1.turn hm4 hin4 hA4
                simp only [HQ3.out.2.1.2.1, List.nil_append, if_true, if_false, Bool.false_eq_true] at hq4 hlB
                have hnx := next_line HQ3.out.2.1.1 line (data ++ endOf broken) HS.out.2.2.2 hlong
                have h04 : ¬ foot p A2 0 := fun hf => by have := hq4.fo 0 hf; have := H.out.2.2.1.pos; omega
                have HQ4 := Lib.hid (And.intro hq4 (And.intro hnx HQ3.out.2.1))
                clear hin4 hm4 hA4 hq4 hnx HQ3
                go_wp2_with fail
                with_reducible refine (Next_calls w4 p A2 cap2 _ HQ4.out.1.inn (by simp only []; omega) (H.out.2.2.1.below HQ4.out.1.blo) h04).mono ?_
                rintro e w5 ⟨v, rfl, hx⟩
                unfold NextPost at hx
                rw [HQ4.out.2.1] at hx
                obtain ⟨A3, cap3, Ab, nb, cb, rfl, hin5, hob, hfb, hm5, hA5⟩ := hx
                have hq5 := HQ4.out.1.turn hm5 hin5 hA5
                simp only [item, Option.getD_some, Option.isSome_some] at hob hq5 ⊢
                have HQ5 := Lib.hid (And.intro hq5 (And.intro HQ4.out.2.2 hob))
                clear hin5 hob hfb hm5 hA5 hq5 HQ4 h04 hlB
                go_wp2_with fail
                refine at_world fun W5 hW5 => ?_
                have hm5 : Mod (fun _ => False) w5 W5 := by
                  rw [hW5]
                  first
                  | exact ((Mod.refl _ w5).alloc _).alloc _
                  | exact (((Mod.refl _ w5).alloc _).alloc _).setCells (fun h => absurd h (by simp)) _ _
                  | exact ((((((Mod.refl _ w5).alloc _).alloc _).setCell (fun h => absurd h (by simp)) _).setCell (fun h => absurd h (by simp)) _).setCell (fun h => absurd h (by simp)) _)
                clear hW5
                have hal := alike_calls W5 1 1 ⟨line.toArray⟩ ⟨line.toArray⟩ Ab none nb 0 cb 0 [] [] (HQ5.out.2.2.rd.mod hm5 fun _ _ h => h) (Rd.nil _ _)
                have hab : alikeB 1 1 ⟨line.toArray⟩ ⟨line.toArray⟩ [] [] = true := by simp [alikeB]
                rw [hab] at hal
                have hq5 := HQ5.out.1.quiet hm5
                have HQ6 := Lib.hid (And.intro hq5 HQ5.out.2.1)
                clear hm5 hab HQ5 hq5
                with_reducible refine hal.mono ?_
                rintro e w6 ⟨rfl, hm6⟩
                have hq6 := HQ6.out.1.quiet hm6
                have x1 := hq6.blk.cell 1
                have x2 := hq6.blk.cell 2
                have x3 := hq6.blk.cell 3
                simp only [List.getElem?_cons_zero, List.getElem?_cons_succ] at x1 x2 x3
                have HQ7 := Lib.hid (And.intro hq6 HQ6.out.2)
                clear hal hm6 hq6 HQ6
                have hnd := HR.out.2
                have hle2 : (data ++ endOf broken).length = nd + 2 := by
                  have : (endOf broken).length = 2 := by cases broken <;> rfl
                  rw [List.length_append, this, hnd]
                by_cases hbig : (nd : Int) ≤ max
                · have hdm : decide (max < (nd : Int)) = false := by simp; omega
                  have hbs : body ⟨s.most, s.stands, data ++ endOf broken, s.size, s.left, s.half, s.ended⟩ (nd : Int) = (⟨s.most, 2, data ++ endOf broken, nd, s.left, s.half, s.ended⟩, 0) :=
                    body_small (s := { s with held := data ++ endOf broken }) HQ7.out.2.1 nd (by omega) (by omega) (by rw [← HQ7.out.2.2.2] at hbig; exact hbig)
                  cases broken
                  · have hnx : next ⟨s.most, 2, data ++ endOf false, nd, s.left, s.half, s.ended⟩ = (⟨s.most, 0, [], nd, s.left, s.half, s.ended⟩, some (item 3 [] data)) := next_body (s := ⟨s.most, 2, [], nd, s.left, s.half, s.ended⟩) data false rfl (by simp only []; omega)
                    have HN := Lib.hid (And.intro hbs (And.intro hnx hle2))
                    clear hbs hnx
                    go_wp2_with fail
                    with_reducible refine (Body_calls w6 p A3 cap3 _ HQ7.out.1.inn nd (by omega) (by simp only []; omega)).mono ?_
                    rintro e w7 ⟨v, rfl, hx⟩
                    unfold BodyPost at hx
                    rw [HN.out.1] at hx
                    obtain ⟨A4, cap4, rfl, hin7, hm7, hA7⟩ := hx
                    have hq7 := HQ7.out.1.turn (hm7.mono fun i _ h => .inl h) hin7 (fun j hj => .inl (hA7 j hj))
                    have h04 : ¬ foot p A4 0 := fun hf => by have := hq7.fo 0 hf; have := H.out.2.2.1.pos; omega
                    have HQ8 := Lib.hid (And.intro hq7 HQ7.out.2)
                    clear hin7 hm7 hA7 hq7 HQ7 x1 x2 x3
                    go_wp2_with fail
                    with_reducible refine (Next_calls w7 p A4 cap4 _ HQ8.out.1.inn (by first | (have := HN.out.2.2; simp only []; omega) | simp) (H.out.2.2.1.below HQ8.out.1.blo) h04).mono ?_
                    rintro e w8 ⟨v, rfl, hx⟩
                    unfold NextPost at hx
                    rw [HN.out.2.1] at hx
                    obtain ⟨A5, cap5, Ae, ne, ce, rfl, hin8, hob, hfb, hm8, hA8⟩ := hx
                    have hq8 := HQ8.out.1.turn hm8 hin8 hA8
                    simp only [item, Option.getD_some, Option.isSome_some] at hob hq8 ⊢
                    have x1 := hq8.blk.cell 1
                    have x2 := hq8.blk.cell 2
                    have x3 := hq8.blk.cell 3
                    have hbl := hq8.blk.lt
                    simp only [List.getElem?_cons_zero, List.getElem?_cons_succ] at x1 x2 x3
                    have HQ9 := Lib.hid (And.intro hq8 (And.intro HQ8.out.2 hob))
                    clear hin8 hob hfb hm8 hA8 hq8 HQ8 h04 hle2
                    go_wp2_with fail
                    refine at_world fun W5 hW5 => ?_
                    have hm5 : Mod (fun _ => False) w8 W5 := by
                      rw [hW5]
                      first
                      | exact ((Mod.refl _ w8).alloc _).alloc _
                      | exact (((Mod.refl _ w8).alloc _).alloc _).setCells (fun h => absurd h (by simp)) _ _
                      | exact ((((((Mod.refl _ w8).alloc _).alloc _).setCell (fun h => absurd h (by simp)) _).setCell (fun h => absurd h (by simp)) _).setCell (fun h => absurd h (by simp)) _)
                    clear hW5
                    have hq5 := HQ9.out.1.quiet hm5
                    have hal := alike_calls W5 3 3 ⟨#[]⟩ ⟨#[]⟩ Ae Ad ne nd ce cd data data (HQ9.out.2.2.rd.mod hm5 fun _ _ h => h) (HR.out.1.below hq5.blo)
                    have hab : alikeB 3 3 ⟨#[]⟩ ⟨#[]⟩ data data = true := by simp [alikeB]
                    rw [hab] at hal
                    have HQA := Lib.hid (And.intro hq5 HQ9.out.2.1)
                    clear hm5 hab HQ9 hq5 x1 x2 x3
                    with_reducible refine hal.mono ?_
                    rintro e w9 ⟨rfl, hm9⟩
                    have HQB := Lib.hid (And.intro (HQA.out.1.quiet hm9) HQA.out.2)
                    clear hal hm9 HQA
                    go_wp2_with fail
                    go_roundg (n - (k + 1))
                    case measure => omega
                    case rel => exact ⟨k + 1, _, by omega, rfl, by go_num, ⟨⟨_, _, HQB.out.1.inn, HQB.out.1.fo⟩, HQB.out.1.blo, rfl, rfl, HQB.out.2.2.2⟩⟩
                  · have hnx : next ⟨s.most, 2, data ++ endOf true, nd, s.left, s.half, s.ended⟩ = (⟨s.most, 0, [], nd, s.left, s.half, s.ended⟩, some (item 5 [] [])) := next_body (s := ⟨s.most, 2, [], nd, s.left, s.half, s.ended⟩) data true rfl (by simp only []; omega)
                    have HN := Lib.hid (And.intro hbs (And.intro hnx hle2))
                    clear hbs hnx
                    go_wp2_with fail
                    with_reducible refine (Body_calls w6 p A3 cap3 _ HQ7.out.1.inn nd (by omega) (by simp only []; omega)).mono ?_
                    rintro e w7 ⟨v, rfl, hx⟩
                    unfold BodyPost at hx
                    rw [HN.out.1] at hx
                    obtain ⟨A4, cap4, rfl, hin7, hm7, hA7⟩ := hx
                    have hq7 := HQ7.out.1.turn (hm7.mono fun i _ h => .inl h) hin7 (fun j hj => .inl (hA7 j hj))
                    have h04 : ¬ foot p A4 0 := fun hf => by have := hq7.fo 0 hf; have := H.out.2.2.1.pos; omega
                    have HQ8 := Lib.hid (And.intro hq7 HQ7.out.2)
                    clear hin7 hm7 hA7 hq7 HQ7 x1 x2 x3
                    go_wp2_with fail
                    with_reducible refine (Next_calls w7 p A4 cap4 _ HQ8.out.1.inn (by first | (have := HN.out.2.2; simp only []; omega) | simp) (H.out.2.2.1.below HQ8.out.1.blo) h04).mono ?_
                    rintro e w8 ⟨v, rfl, hx⟩
                    unfold NextPost at hx
                    rw [HN.out.2.1] at hx
                    obtain ⟨A5, cap5, Ae, ne, ce, rfl, hin8, hob, hfb, hm8, hA8⟩ := hx
                    have hq8 := HQ8.out.1.turn hm8 hin8 hA8
                    simp only [item, Option.getD_some, Option.isSome_some] at hob hq8 ⊢
                    have x1 := hq8.blk.cell 1
                    have x2 := hq8.blk.cell 2
                    have x3 := hq8.blk.cell 3
                    have hbl := hq8.blk.lt
                    simp only [List.getElem?_cons_zero, List.getElem?_cons_succ] at x1 x2 x3
                    have HQ9 := Lib.hid (And.intro hq8 (And.intro HQ8.out.2 hob))
                    clear hin8 hob hfb hm8 hA8 hq8 HQ8 h04 hle2
                    go_wp2_with fail
                    refine at_world fun W5 hW5 => ?_
                    have hm5 : Mod (fun _ => False) w8 W5 := by
                      rw [hW5]
                      first
                      | exact ((Mod.refl _ w8).alloc _).alloc _
                      | exact (((Mod.refl _ w8).alloc _).alloc _).setCells (fun h => absurd h (by simp)) _ _
                      | exact ((((((Mod.refl _ w8).alloc _).alloc _).setCell (fun h => absurd h (by simp)) _).setCell (fun h => absurd h (by simp)) _).setCell (fun h => absurd h (by simp)) _)
                    clear hW5
                    have hq5 := HQ9.out.1.quiet hm5
                    have hal := alike_calls W5 5 5 ⟨#[]⟩ ⟨#[]⟩ Ae none ne 0 ce 0 [] [] (HQ9.out.2.2.rd.mod hm5 fun _ _ h => h) (Rd.nil _ _)
                    have hab : alikeB 5 5 ⟨#[]⟩ ⟨#[]⟩ [] [] = true := by simp [alikeB]
                    rw [hab] at hal
                    have HQA := Lib.hid (And.intro hq5 HQ9.out.2.1)
                    clear hm5 hab HQ9 hq5 x1 x2 x3
                    with_reducible refine hal.mono ?_
                    rintro e w9 ⟨rfl, hm9⟩
                    have HQB := Lib.hid (And.intro (HQA.out.1.quiet hm9) HQA.out.2)
                    clear hal hm9 HQA
                    go_wp2_with fail
                    go_roundg (n - (k + 1))
                    case measure => omega
                    case rel => exact ⟨k + 1, _, by omega, rfl, by go_num, ⟨⟨_, _, HQB.out.1.inn, HQB.out.1.fo⟩, HQB.out.1.blo, rfl, rfl, HQB.out.2.2.2⟩⟩
                · have hdm : decide (max < (nd : Int)) = true := by simp; omega
                  have hbs : body ⟨s.most, s.stands, data ++ endOf broken, s.size, s.left, s.half, s.ended⟩ (nd : Int) = (⟨s.most, 3, [], s.size, 0, s.half, s.ended⟩, 0) := by
                    rw [← hnd]
                    exact body_big (s := s) HQ7.out.2.1 data broken (by omega) (by rw [HQ7.out.2.2.2]; omega)
                  have hnx : next ⟨s.most, 3, [], s.size, 0, s.half, s.ended⟩ = (⟨s.most, 0, [], s.size, 0, s.half, s.ended⟩, some (item 4 [] [])) := next_big (s := ⟨s.most, 3, [], s.size, 0, s.half, s.ended⟩) rfl rfl
                  have HN := Lib.hid (And.intro hbs (And.intro hnx hle2))
                  clear hbs hnx
                  go_wp2_with fail
                  with_reducible refine (Body_calls w6 p A3 cap3 _ HQ7.out.1.inn nd (by omega) (by simp only []; omega)).mono ?_
                  rintro e w7 ⟨v, rfl, hx⟩
                  unfold BodyPost at hx
                  rw [HN.out.1] at hx
                  obtain ⟨A4, cap4, rfl, hin7, hm7, hA7⟩ := hx
                  have hq7 := HQ7.out.1.turn (hm7.mono fun i _ h => .inl h) hin7 (fun j hj => .inl (hA7 j hj))
                  have h04 : ¬ foot p A4 0 := fun hf => by have := hq7.fo 0 hf; have := H.out.2.2.1.pos; omega
                  have HQ8 := Lib.hid (And.intro hq7 HQ7.out.2)
                  clear hin7 hm7 hA7 hq7 HQ7 x1 x2 x3
                  go_wp2_with fail
                  with_reducible refine (Next_calls w7 p A4 cap4 _ HQ8.out.1.inn (by first | (have := HN.out.2.2; simp only []; omega) | simp) (H.out.2.2.1.below HQ8.out.1.blo) h04).mono ?_
                  rintro e w8 ⟨v, rfl, hx⟩
                  unfold NextPost at hx
                  rw [HN.out.2.1] at hx
                  obtain ⟨A5, cap5, Ae, ne, ce, rfl, hin8, hob, hfb, hm8, hA8⟩ := hx
                  have hq8 := HQ8.out.1.turn hm8 hin8 hA8
                  simp only [item, Option.getD_some, Option.isSome_some] at hob hq8 ⊢
                  have x1 := hq8.blk.cell 1
                  have x2 := hq8.blk.cell 2
                  have x3 := hq8.blk.cell 3
                  have hbl := hq8.blk.lt
                  simp only [List.getElem?_cons_zero, List.getElem?_cons_succ] at x1 x2 x3
                  have HQ9 := Lib.hid (And.intro hq8 (And.intro HQ8.out.2 hob))
                  clear hin8 hob hfb hm8 hA8 hq8 HQ8 h04 hle2
                  go_wp2_with fail
                  refine at_world fun W5 hW5 => ?_
                  have hm5 : Mod (fun _ => False) w8 W5 := by
                    rw [hW5]
                    first
                    | exact ((Mod.refl _ w8).alloc _).alloc _
                    | exact (((Mod.refl _ w8).alloc _).alloc _).setCells (fun h => absurd h (by simp)) _ _
                    | exact ((((((Mod.refl _ w8).alloc _).alloc _).setCell (fun h => absurd h (by simp)) _).setCell (fun h => absurd h (by simp)) _).setCell (fun h => absurd h (by simp)) _)
                  clear hW5
                  have hq5 := HQ9.out.1.quiet hm5
                  have hal := alike_calls W5 4 4 ⟨#[]⟩ ⟨#[]⟩ Ae none ne 0 ce 0 [] [] (HQ9.out.2.2.rd.mod hm5 fun _ _ h => h) (Rd.nil _ _)
                  have hab : alikeB 4 4 ⟨#[]⟩ ⟨#[]⟩ [] [] = true := by simp [alikeB]
                  rw [hab] at hal
                  have HQA := Lib.hid (And.intro hq5 HQ9.out.2.1)
                  clear hm5 hab HQ9 hq5 x1 x2 x3
                  with_reducible refine hal.mono ?_
                  rintro e w9 ⟨rfl, hm9⟩
                  have HQB := Lib.hid (And.intro (HQA.out.1.quiet hm9) HQA.out.2)
                  clear hal hm9 HQA
                  go_wp2_with fail
                  go_roundg (n - (k + 1))
                  case measure => omega
                  case rel => exact ⟨k + 1, _, by omega, rfl, by go_num, ⟨⟨_, _, HQB.out.1.inn, HQB.out.1.fo⟩, HQB.out.1.blo, rfl, rfl, HQB.out.2.2.2⟩⟩
            · have hd : decide ((222 : Int) < (line.length : Int)) = true := by simp; omega
              cases body
              · -- a long line
                go_wp2_with fail
                refine at_world fun W hW => ?_
                have hWe : W = wr.alloc (.cells #[.string tx, .bool false, .bool broken, .slice Ad nd cd] 59) := hW
                have HQ := Lib.hid (hWe ▸ HP.out : PH w W p s A1 cap1 wr.heap.size [.string tx, .bool false, .bool broken, .slice Ad nd cd] ∧ s.stands = 0 ∧ s.held = [] ∧ s.most = max)
                have x0 := HQ.out.1.blk.cell 0
                have x1 := HQ.out.1.blk.cell 1
                have x2 := HQ.out.1.blk.cell 2
                have x3 := HQ.out.1.blk.cell 3
                have f1 := HQ.out.1.blk.frozen 1 (by simp)
                simp only [List.getElem?_cons_zero, List.getElem?_cons_succ] at x0 x1 x2 x3
                clear hWe hW HP c0 c1 c2 c3
                with_reducible refine (HS.out.1 W).mono ?_
                rintro e w' ⟨rfl, rfl⟩
                go_wp2_with fail

                have hrd := HR.out.1.below HQ.out.1.blo
                with_reducible refine (HS.out.2.1 _ _ hrd).mono ?_
                rintro e w3 ⟨v, rfl, B, nB, cB, rfl, hoB, hmB, hBn⟩
                have hlB := hoB.blen
                have hq3 := HQ.out.1.quiet hmB
                have hfB : ∀ k, InB B k → k < w3.heap.size ∧ ¬ foot p A1 k := fun j hj => ⟨hoB.lt j hj, fun hf => absurd (HQ.out.1.inn.lt j hf) (by have := hBn j hj; omega)⟩
                have HQ3 := Lib.hid (And.intro hq3 (And.intro HQ.out.2 (And.intro hoB.rd hfB)))
                have hnB : nB ≤ 2147483651 := by have := HS.out.2.2.1 false; omega
                clear hq3 hoB hmB hBn hfB HQ x0 x1 x2 x3 f1 hrd
                go_wp2_with fail
                with_reducible refine (fed_calls w3 p A1 cap1 s HQ3.out.1.inn HQ3.out.2.1.1 B nB cB _ HQ3.out.2.2.1 HQ3.out.2.2.2 _ HA.out (by rw [HQ3.out.2.1.2.1]; simp; omega)).mono ?_
                rintro e w4 ⟨v, rfl, A2, cap2, rfl, hin4, hm4, hA4⟩
                have hq4 := HQ3.out.1.turn hm4 hin4 hA4
                simp only [HQ3.out.2.1.2.1, List.nil_append, if_true, if_false, Bool.false_eq_true] at hq4 hlB
                have hnx := next_long HQ3.out.2.1.1 line HS.out.2.2.2 (by omega)
                have h04 : ¬ foot p A2 0 := fun hf => by have := hq4.fo 0 hf; have := H.out.2.2.1.pos; omega
                have HQ4 := Lib.hid (And.intro hq4 (And.intro hnx HQ3.out.2.1))
                clear hin4 hm4 hA4 hq4 hnx HQ3
                go_wp2_with fail
                with_reducible refine (Next_calls w4 p A2 cap2 _ HQ4.out.1.inn (by simp only []; omega) (H.out.2.2.1.below HQ4.out.1.blo) h04).mono ?_
                rintro e w5 ⟨v, rfl, hx⟩
                unfold NextPost at hx
                rw [HQ4.out.2.1] at hx
                obtain ⟨A3, cap3, Ab, nb, cb, rfl, hin5, hob, hfb, hm5, hA5⟩ := hx
                have hq5 := HQ4.out.1.turn hm5 hin5 hA5
                simp only [item, Option.getD_some, Option.isSome_some] at hob hq5 ⊢
                have HQ5 := Lib.hid (And.intro hq5 (And.intro HQ4.out.2.2 hob))
                clear hin5 hob hfb hm5 hA5 hq5 HQ4 h04 hlB
                go_wp2_with fail
                refine at_world fun W5 hW5 => ?_
                have hm5 : Mod (fun _ => False) w5 W5 := by
                  rw [hW5]
                  first
                  | exact ((Mod.refl _ w5).alloc _).alloc _
                  | exact (((Mod.refl _ w5).alloc _).alloc _).setCells (fun h => absurd h (by simp)) _ _
                  | exact ((((((Mod.refl _ w5).alloc _).alloc _).setCell (fun h => absurd h (by simp)) _).setCell (fun h => absurd h (by simp)) _).setCell (fun h => absurd h (by simp)) _)
                clear hW5
                have hal := alike_calls W5 2 2 ⟨#[]⟩ ⟨#[]⟩ Ab none nb 0 cb 0 [] [] (HQ5.out.2.2.rd.mod hm5 fun _ _ h => h) (Rd.nil _ _)
                have hab : alikeB 2 2 ⟨#[]⟩ ⟨#[]⟩ [] [] = true := by simp [alikeB]
                rw [hab] at hal
                have hq5 := HQ5.out.1.quiet hm5
                have HQ6 := Lib.hid (And.intro hq5 HQ5.out.2.1)
                clear hm5 hab HQ5 hq5
                with_reducible refine hal.mono ?_
                rintro e w6 ⟨rfl, hm6⟩
                have hq6 := HQ6.out.1.quiet hm6
                have x1 := hq6.blk.cell 1
                have x2 := hq6.blk.cell 2
                have x3 := hq6.blk.cell 3
                simp only [List.getElem?_cons_zero, List.getElem?_cons_succ] at x1 x2 x3
                have HQ7 := Lib.hid (And.intro hq6 HQ6.out.2)
                clear hal hm6 hq6 HQ6

                go_wp2_with fail
                go_roundg (n - (k + 1))
                case measure => omega
                case rel => exact ⟨k + 1, _, by omega, rfl, by go_num, ⟨⟨_, _, HQ7.out.1.inn, HQ7.out.1.fo⟩, HQ7.out.1.blo, HQ7.out.2.1, rfl, HQ7.out.2.2.2⟩⟩
              · -- a long line, its body let go
                go_wp2_with fail
                refine at_world fun W hW => ?_
                have hWe : W = wr.alloc (.cells #[.string tx, .bool true, .bool broken, .slice Ad nd cd] 59) := hW
                have HQ := Lib.hid (hWe ▸ HP.out : PH w W p s A1 cap1 wr.heap.size [.string tx, .bool true, .bool broken, .slice Ad nd cd] ∧ s.stands = 0 ∧ s.held = [] ∧ s.most = max)
                have x0 := HQ.out.1.blk.cell 0
                have x1 := HQ.out.1.blk.cell 1
                have x2 := HQ.out.1.blk.cell 2
                have x3 := HQ.out.1.blk.cell 3
                have f1 := HQ.out.1.blk.frozen 1 (by simp)
                simp only [List.getElem?_cons_zero, List.getElem?_cons_succ] at x0 x1 x2 x3
                clear hWe hW HP c0 c1 c2 c3
                with_reducible refine (HS.out.1 W).mono ?_
                rintro e w' ⟨rfl, rfl⟩
                go_wp2_with fail

                refine at_world fun W2 hW2 => ?_
                have hs2 := HQ.out.1.store 1 (.bool false)
                rw [show W.setCell ⟨wr.heap.size, 1, none⟩ (.bool false) = W2 from hW2.symm] at hs2
                simp only [List.set_cons_succ, List.set_cons_zero] at hs2
                have HQ2 := Lib.hid (And.intro hs2 HQ.out.2)
                clear HQ hs2 hW2
                have HQ := HQ2
                clear HQ2

                have hrd := HR.out.1.below HQ.out.1.blo
                with_reducible refine (HS.out.2.1 _ _ hrd).mono ?_
                rintro e w3 ⟨v, rfl, B, nB, cB, rfl, hoB, hmB, hBn⟩
                have hlB := hoB.blen
                have hq3 := HQ.out.1.quiet hmB
                have hfB : ∀ k, InB B k → k < w3.heap.size ∧ ¬ foot p A1 k := fun j hj => ⟨hoB.lt j hj, fun hf => absurd (HQ.out.1.inn.lt j hf) (by have := hBn j hj; omega)⟩
                have HQ3 := Lib.hid (And.intro hq3 (And.intro HQ.out.2 (And.intro hoB.rd hfB)))
                have hnB : nB ≤ 2147483651 := by have := HS.out.2.2.1 false; omega
                clear hq3 hoB hmB hBn hfB HQ x0 x1 x2 x3 f1 hrd
                go_wp2_with fail
                with_reducible refine (fed_calls w3 p A1 cap1 s HQ3.out.1.inn HQ3.out.2.1.1 B nB cB _ HQ3.out.2.2.1 HQ3.out.2.2.2 _ HA.out (by rw [HQ3.out.2.1.2.1]; simp; omega)).mono ?_
                rintro e w4 ⟨v, rfl, A2, cap2, rfl, hin4, hm4, hA4⟩
                have hq4 := HQ3.out.1.turn hm4 hin4 hA4
                simp only [HQ3.out.2.1.2.1, List.nil_append, if_true, if_false, Bool.false_eq_true] at hq4 hlB
                have hnx := next_long HQ3.out.2.1.1 line HS.out.2.2.2 (by omega)
                have h04 : ¬ foot p A2 0 := fun hf => by have := hq4.fo 0 hf; have := H.out.2.2.1.pos; omega
                have HQ4 := Lib.hid (And.intro hq4 (And.intro hnx HQ3.out.2.1))
                clear hin4 hm4 hA4 hq4 hnx HQ3
                go_wp2_with fail
                with_reducible refine (Next_calls w4 p A2 cap2 _ HQ4.out.1.inn (by simp only []; omega) (H.out.2.2.1.below HQ4.out.1.blo) h04).mono ?_
                rintro e w5 ⟨v, rfl, hx⟩
                unfold NextPost at hx
                rw [HQ4.out.2.1] at hx
                obtain ⟨A3, cap3, Ab, nb, cb, rfl, hin5, hob, hfb, hm5, hA5⟩ := hx
                have hq5 := HQ4.out.1.turn hm5 hin5 hA5
                simp only [item, Option.getD_some, Option.isSome_some] at hob hq5 ⊢
                have HQ5 := Lib.hid (And.intro hq5 (And.intro HQ4.out.2.2 hob))
                clear hin5 hob hfb hm5 hA5 hq5 HQ4 h04 hlB
                go_wp2_with fail
                refine at_world fun W5 hW5 => ?_
                have hm5 : Mod (fun _ => False) w5 W5 := by
                  rw [hW5]
                  first
                  | exact ((Mod.refl _ w5).alloc _).alloc _
                  | exact (((Mod.refl _ w5).alloc _).alloc _).setCells (fun h => absurd h (by simp)) _ _
                  | exact ((((((Mod.refl _ w5).alloc _).alloc _).setCell (fun h => absurd h (by simp)) _).setCell (fun h => absurd h (by simp)) _).setCell (fun h => absurd h (by simp)) _)
                clear hW5
                have hal := alike_calls W5 2 2 ⟨#[]⟩ ⟨#[]⟩ Ab none nb 0 cb 0 [] [] (HQ5.out.2.2.rd.mod hm5 fun _ _ h => h) (Rd.nil _ _)
                have hab : alikeB 2 2 ⟨#[]⟩ ⟨#[]⟩ [] [] = true := by simp [alikeB]
                rw [hab] at hal
                have hq5 := HQ5.out.1.quiet hm5
                have HQ6 := Lib.hid (And.intro hq5 HQ5.out.2.1)
                clear hm5 hab HQ5 hq5
                with_reducible refine hal.mono ?_
                rintro e w6 ⟨rfl, hm6⟩
                have hq6 := HQ6.out.1.quiet hm6
                have x1 := hq6.blk.cell 1
                have x2 := hq6.blk.cell 2
                have x3 := hq6.blk.cell 3
                simp only [List.getElem?_cons_zero, List.getElem?_cons_succ] at x1 x2 x3
                have HQ7 := Lib.hid (And.intro hq6 HQ6.out.2)
                clear hal hm6 hq6 HQ6

                go_wp2_with fail
                go_roundg (n - (k + 1))
                case measure => omega
                case rel => exact ⟨k + 1, _, by omega, rfl, by go_num, ⟨⟨_, _, HQ7.out.1.inn, HQ7.out.1.fo⟩, HQ7.out.1.blo, HQ7.out.2.1, rfl, HQ7.out.2.2.2⟩⟩
        · obtain ⟨A1, cap1, hin, hfr⟩ := HH.out.inn
          have hnx := next_none HH.out.stands HH.out.held
          have h04 : ¬ foot p A1 0 := fun hf => by have := hfr 0 hf; have := H.out.2.2.1.pos; omega
          have hlh : s.held.length = 0 := by rw [HH.out.held]; rfl
          go_wp2_with fail
          with_reducible refine (Next_calls wr p A1 cap1 s hin (by omega) (H.out.2.2.1.below HH.out.blo) h04).mono ?_
          rintro e w5 ⟨v, rfl, hx⟩
          unfold NextPost at hx
          rw [hnx] at hx
          obtain ⟨A3, cap3, Ab, nb, cb, rfl, hin5, hob, hfb, hm5, hA5⟩ := hx
          have hb5 := HH.out.blo.trans (hm5.below HH.out.blo.size fun i hi hf => by have := hfr i hf; omega)
          simp only [Option.getD_none, Option.isSome_none, zeroItem] at hin5 ⊢
          have hin6 := hin5.mod ((Mod.refl (fun _ => False) w5).alloc (.cells #[.int .i64 0, .string ⟨#[]⟩, .slice Ab nb cb] 54)) fun _ _ h => h
          have hb6 := hb5.alloc hb5.size (.cells #[.int .i64 0, .string ⟨#[]⟩, .slice Ab nb cb] 54)
          have HZ := Lib.hid (And.intro hin6 hb6)
          clear hin5 hob hfb hm5 hA5 hin6 hb6 hb5 hnx hin hfr h04
          go_wp2_with fail
          with_reducible refine (Held_calls _ p A3 cap3 s HZ.out.1).mono ?_
          rintro e w6 ⟨rfl, rfl⟩
          rw [hlh]
          go_wp2_with fail
          go_ret
          exact Gives.mk ⟨rfl, HZ.out.2⟩
end Go.Proofs.Ytoeaaomgilgncaa
