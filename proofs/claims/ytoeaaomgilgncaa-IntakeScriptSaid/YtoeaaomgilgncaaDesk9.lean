/-
  IntakeScript: the desk: clone.
-/
import Derived.Test.YtoeaaomgilgncaaDesk8
namespace Go.Proofs.Ytoeaaomgilgncaa
open Go.RowKit Go.Mem Go.Intake
set_option linter.unusedVariables false

def CloneAt (w0 : World) (d : Nat) (L : List PR) (k : Nat) (to_ : Int) (T K : Nat) (v : Value) (w' : World) : Prop :=
  v = .bool true ∧ ∃ L', L'.length ≤ 4 ∧ L.length ≤ L'.length ∧ Desk w0 w' d L' T K
set_option maxRecDepth 100000 in
set_option maxHeartbeats 4000000 in
theorem dclone_calls (w0 w : World) (d : Nat) (L : List PR) (T K : Nat) (h : Desk w0 w d L T K) (k : Nat) (hk : k < L.length) (to_ : Int) (hto : -9223372036854775808 ≤ to_ ∧ to_ ≤ 9223372036854775807) (hT : T ≤ 100000000000) (hL : L.length ≤ 4) :
    Calls Try.prog 31 #[.pointer (some ⟨d, 0, none⟩), .int .i64 k, .int .i64 to_] w (Gives (CloneAt w0 d L k to_ T K)) := by
  obtain ⟨a, hok, hh⟩ := h
  obtain ⟨⟨gA, oA, eA, xA, -⟩, -⟩ := desk_at hh k hk
  obtain ⟨c0, c1, c5⟩ := desk_cells hh
  rw [eA] at c0
  obtain ⟨RZ, HZ, HZB⟩ := desk_zoom (R0 := []) hh k hk
  obtain ⟨AI, capI, hI, hIl, hIs⟩ := Holds.ain HZ
  have hE := hok.eqv _ (List.getElem_mem hk)
  have HC := Lib.hid (IClone_calls w L[k].p AI capI L[k].s hI (by omega))
  have H := Lib.hid (And.intro hok (And.intro hh hE))
  clear hok hh HZ HZB hI hIl hIs hE
  go_enter Try.func31, Try.ntmps31
  go_wp2_with fail
  with_reducible refine HC.out.mono ?_
  rintro e w3 ⟨v, rfl, q, A3, cap3, rfl, hi3, hm3, hn3⟩
  have H3 := Holds.cons (P := aI q L[k].s) (S := foot q A3) H.out.2.1 hm3 ⟨A3, cap3, hi3, fun _ => Iff.rfl⟩ hn3
  obtain ⟨-, ⟨gB, oB, eB, xB, -⟩⟩ := desk_at H3.tail k hk
  obtain ⟨c0', c1, c5'⟩ := desk_cells H3.tail
  rw [eB] at c1
  obtain ⟨RZ, HZ, HZB⟩ := desk_zoom (R0 := []) H3.tail k hk
  obtain ⟨AR, capR, hR, hRl, hRs⟩ := Holds.rin HZ.swap
  have hrs : L[k].r.held.length ≤ 100000000000 := by rw [← H.out.2.2.1.held]; have := H.out.2.2.2; omega
  have HC := Lib.hid (RClone_calls w3 L[k].q AR capR L[k].r hR (by omega))
  have H3 := Lib.hid H3
  clear HZ HZB hR hRl hRs hi3 hm3 hn3 c0 xA c0' c5' c5
  go_wp2_with fail
  with_reducible refine HC.out.mono ?_
  rintro e w4 ⟨v, rfl, q2, A4, cap4, rfl, hi4, hm4, hn4⟩
  have H4 := Holds.cons (P := aR q2 L[k].r) (S := foot q2 A4) H3.out hm4 ⟨A4, cap4, hi4, fun _ => Iff.rfl⟩ hn4
  obtain ⟨XX, hXX⟩ : ∃ XX, XX = [aI q L[k].s, aR q2 L[k].r] ++ (deskRest d a ++ (L.map aIp ++ (L.map aRp ++ []))) := ⟨_, rfl⟩
  have HK : Hid (Holds w0 w4 (deskBlk d a L.length L.length a.Aa a.ca a.Ab a.cb :: aOwn 38 1 a.Aa L.length a.ca (L.map PR.va) :: aOwn 40 1 a.Ab L.length a.cb (L.map PR.vb) :: XX)) := by
    rw [hXX]
    exact Holds.perm H4.swap ((List.Perm.cons _ (List.Perm.cons _ (desk_perm d a L))).trans (List.perm_append_comm_assoc [aI q L[k].s, aR q2 L[k].r] [deskBlk d a L.length L.length a.Aa a.ca a.Ab a.cb, aOwn 38 1 a.Aa L.length a.ca (L.map PR.va), aOwn 40 1 a.Ab L.length a.cb (L.map PR.vb)] _))
  have HXX := Lib.hid hXX
  have hoks : ∀ x ∈ [(⟨q, L[k].s, q2, L[k].r⟩ : PR)], Eqv x.s x.r ∧ x.s.held.length ≤ T := fun x hx => by
    obtain rfl : x = ⟨q, L[k].s, q2, L[k].r⟩ := by simpa using hx
    exact H.out.2.2
  have HS := Lib.hid hoks
  clear hXX hi4 hm4 hn4 H4 HC xB c1 hoks eA eB
  by_cases hlt : L.length < 4
  · have hd : decide ((L.length : Int) < 4) = true := by simp; omega
    have hblk := HK.out
    have c0 := hblk.blk.1.cell 0
    have f0 := hblk.blk.1.frozen 0 (by simp [deskCells])
    simp only [deskCells, List.getElem?_cons_zero, List.getElem?_cons_succ] at c0
    clear hblk
    go_upto_region 7 with (at_builtin; refine wpList_append _ rfl (.tmp 37) (.tmp 39) 25 25 rfl Try.elt25 a.Aa L.length a.ca (L.map PR.va) rfl (HK.out.swap.own.1.alloc _) (.slice (some ⟨w4.heap.size, 0, none⟩) 1 1) 1 [.pointer (some ⟨q, 0, none⟩)] rfl (Rd.src (Own.row _ 38 1 1 [.pointer (some ⟨q, 0, none⟩)] rfl (by decide)).rd Try.underlying25 (by simp [Value.oneCell'])) (by unfold maxLen; omega) (by omega) ?_; intro A8 c8 w8 ho8 hm8 hin8 _; have h8 := Lib.hid (((HK.out.alloc (.cells #[.pointer (some ⟨q, 0, none⟩)] 38)).swap.append ho8 hm8 (fun k hk => by simpa using hin8 k hk)).swap); have j0 := h8.out.blk.1.cell 0; have jf := h8.out.blk.1.frozen 0 (by simp [deskCells]); simp only [deskCells, List.getElem?_cons_zero, List.getElem?_cons_succ] at j0; clear ho8 hm8 hin8 c0 f0)
    refine wp_at fun W8 hW8 => ?_
    have HK8 : Holds w0 W8 (deskBlk d a (L.length + 1) L.length A8 c8 a.Ab a.cb :: aOwn 38 1 A8 (L.length + 1) c8 (L.map PR.va ++ [.pointer (some ⟨q, 0, none⟩)]) :: aOwn 40 1 a.Ab L.length a.cb (L.map PR.vb) :: XX) := by
      rw [hW8]
      exact h8.out.store 0 (.slice A8 (L.length + 1) c8)
    clear hW8 h8 j0 jf HK
    have c1 := HK8.blk.1.cell 1
    have f1 := HK8.blk.1.frozen 1 (by simp [deskCells])
    simp only [deskCells, List.getElem?_cons_zero, List.getElem?_cons_succ] at c1
    have HK := Lib.hid HK8.get3
    clear HK8
    go_wp2_with (at_builtin; refine wpList_append _ rfl (.tmp 47) (.tmp 49) 26 26 rfl Try.elt26 a.Ab L.length a.cb (L.map PR.vb) rfl (HK.out.own.1.alloc _) (.slice (some ⟨W8.heap.size, 0, none⟩) 1 1) 1 [.pointer (some ⟨q2, 0, none⟩)] rfl (Rd.src (Own.row _ 40 1 1 [.pointer (some ⟨q2, 0, none⟩)] rfl (by decide)).rd Try.underlying26 (by simp [Value.oneCell'])) (by unfold maxLen; omega) (by omega) ?_; intro A9 c9 w9 ho9 hm9 hin9 _; have h9 := Lib.hid (((HK.out.alloc (.cells #[.pointer (some ⟨q2, 0, none⟩)] 40)).append ho9 hm9 (fun k hk => by simpa using hin9 k hk)).swap); have j1 := h9.out.blk.1.cell 1; have jf1 := h9.out.blk.1.frozen 1 (by simp [deskCells]); simp only [deskCells, List.getElem?_cons_zero, List.getElem?_cons_succ] at j1; clear ho9 hm9 hin9 c1 f1)
    have HG2 := Lib.hid ((h9.out.store 1 (.slice A9 (L.length + 1) c9)).get3.swap)
    clear HK h9 j1 jf1
    go_wp2_with fail
    go_ret

    have HG3 := HG2.out
    rw [HXX.out] at HG3
    refine Gives.mk ⟨rfl, L ++ [⟨q, L[k].s, q2, L[k].r⟩], by simp; omega, by simp, _, ?_, desk_push (x := ⟨q, L[k].s, q2, L[k].r⟩) HG3⟩
    exact ⟨H.out.1.e1, H.out.1.e2, H.out.1.fb, H.out.1.cnt, fun x hx => by
      rcases List.mem_append.1 hx with hx | hx
      · exact H.out.1.eqv x hx
      · exact HS.out x hx⟩
  · have hL4 : L.length = 4 := by omega
    have hd : decide ((L.length : Int) < 4) = false := by simp; omega
    have hblk := HK.out
    have c0 := hblk.blk.1.cell 0
    simp only [deskCells, List.getElem?_cons_zero, List.getElem?_cons_succ] at c0
    clear hblk
    go_wp2_with fail
    with_reducible refine (among_calls w4 to_ 4 hto (by omega)).mono ?_
    rintro e w' ⟨rfl, rfl⟩
    obtain ⟨h1, h2⟩ := among_range to_ 4 (by omega)
    obtain ⟨t, ht⟩ := Int.eq_ofNat_of_zero_le h1
    rw [ht]
    have ht4 : t < L.length := by omega
    clear h1 h2 ht hd hL4 hlt
    have hoa := HK.out.swap.own.1
    obtain ⟨g, off, hA⟩ := hoa.some_of (by simp; omega)
    rw [hA] at hoa c0
    obtain ⟨u, x0⟩ : ∃ u, w4.cell? ⟨g, off + t, none⟩ = some u := ⟨_, hoa.cell t (by simpa using ht4)⟩
    have f0 := hoa.frozen t (by simpa using ht4)
    have HA := Lib.hid hA
    clear hA hoa
    go_upto_region 11 with (fail)
    refine wp_at fun W8 hW8 => ?_
    have HK8 : Holds w0 W8 (deskBlk d a L.length L.length a.Aa a.ca a.Ab a.cb :: aOwn 38 1 a.Aa L.length a.ca ((L.map PR.va).set t (.pointer (some ⟨q, 0, none⟩))) :: aOwn 40 1 a.Ab L.length a.cb (L.map PR.vb) :: XX) := by
      rw [hW8]
      have := HK.out.swap
      rw [HA.out] at this ⊢
      exact (Holds.own_set1 this t (by simpa using ht4) _).swap
    clear hW8 x0 f0 c0
    have c1 := HK8.blk.1.cell 1
    simp only [deskCells, List.getElem?_cons_zero, List.getElem?_cons_succ] at c1
    have hob := HK8.get3.own.1
    obtain ⟨g2, off2, hB⟩ := hob.some_of (by simp; omega)
    rw [hB] at hob c1
    obtain ⟨u2, y0⟩ : ∃ u, W8.cell? ⟨g2, off2 + t, none⟩ = some u := ⟨_, hob.cell t (by simpa using ht4)⟩
    have z0 := hob.frozen t (by simpa using ht4)
    have HB := Lib.hid hB
    have HK8 := Lib.hid HK8
    clear hB hob
    go_wp2_with fail
    go_ret
    have HK9 : Holds w0 (W8.setCell ⟨g2, off2 + t, none⟩ (.pointer (some ⟨q2, 0, none⟩))) (deskBlk d a L.length L.length a.Aa a.ca a.Ab a.cb :: aOwn 38 1 a.Aa L.length a.ca ((L.map PR.va).set t (.pointer (some ⟨q, 0, none⟩))) :: aOwn 40 1 a.Ab L.length a.cb ((L.map PR.vb).set t (.pointer (some ⟨q2, 0, none⟩))) :: XX) := by
      have := HK8.out.get3
      rw [HB.out] at this ⊢
      exact (Holds.own_set1 this t (by simpa using ht4) _).put3
    rw [HXX.out] at HK9
    refine Gives.mk ⟨rfl, L.set t ⟨q, L[k].s, q2, L[k].r⟩, by rw [List.length_set]; exact hL, by rw [List.length_set]; exact Nat.le_refl _, a, ?_, desk_put (x := ⟨q, L[k].s, q2, L[k].r⟩) t ht4 HK9⟩
    exact ⟨H.out.1.e1, H.out.1.e2, H.out.1.fb, H.out.1.cnt, fun x hx => by
      rcases List.mem_or_eq_of_mem_set hx with hx | hx
      · exact H.out.1.eqv x hx
      · exact HS.out x (by rw [hx]; simp)⟩
end Go.Proofs.Ytoeaaomgilgncaa
