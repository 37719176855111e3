/-
  IntakeScript: the desk: act.
-/
import Derived.Test.YtoeaaomgilgncaaDesk9
import Derived.Deep.RegionHeld3
namespace Go.Proofs.Ytoeaaomgilgncaa
open Go.RowKit Go.Mem Go.Intake
set_option linter.unusedVariables false

theorem body_len (s : St) (n : Int) : (body s n).1.held.length ≤ s.held.length := by
  unfold body
  split
  · exact Nat.le_refl _
  · split
    · exact Nat.le_refl _
    · simp only [List.length_drop]; omega
def ActAtD (w0 : World) (d : Nat) (L : List PR) (T K : Nat) (v : Value) (w' : World) : Prop :=
  v = .bool true ∧ ∃ L', L'.length ≤ 4 ∧ L.length ≤ L'.length ∧ Desk w0 w' d L' T K
theorem Desk.mono {w0 w : World} {d : Nat} {L : List PR} {T K T' K' : Nat} (h : Desk w0 w d L T K) (h1 : T ≤ T') (h2 : K ≤ K') : Desk w0 w d L T' K' := by
  obtain ⟨a, ⟨k1, k2, k3, k4, k5⟩, hh⟩ := h
  exact ⟨a, ⟨k1, k2, fun o ho => Nat.le_trans (k3 o ho) h1, by omega, fun x hx => ⟨(k5 x hx).1, Nat.le_trans (k5 x hx).2 h1⟩⟩, hh⟩
section
variable {w0 : World} {p q : Nat} {s : St} {r : RS} {RZ : List Ast}
theorem body_any (n : Int) (hn : -9223372036854775808 ≤ n ∧ n ≤ 9223372036854775807) (hs : s.held.length ≤ 100000000000) (W : World) (r' : RS) (h : Holds w0 W (aI p s :: aR q r' :: RZ)) :
    Calls Try.prog 26 #[.pointer (some ⟨p, 0, none⟩), .int .i64 n] W (Gives fun v w' => v = .int .i64 (body s n).2 ∧ Holds w0 w' (aI p (body s n).1 :: aR q r' :: RZ)) := by
  obtain ⟨A, cap, hI, _, hst⟩ := Holds.ain h
  refine (Body_calls W p A cap s hI n hn (by omega)).mono ?_
  rintro e w' ⟨v, rfl, hx⟩
  unfold BodyPost at hx
  obtain ⟨A', cap', rfl, hin, hm, hA⟩ := hx
  exact Gives.mk ⟨rfl, hst _ _ _ _ hin (hm.mono fun i _ e => .inl e) fun k hk => .inl (hA k hk)⟩
theorem rbody_any (n : Int) (hn : -9223372036854775808 ≤ n ∧ n ≤ 9223372036854775807) (hs : r.held.length ≤ 100000000000) (W : World) (s' : St) (h : Holds w0 W (aI p s' :: aR q r :: RZ)) :
    Calls Try.prog 30 #[.pointer (some ⟨q, 0, none⟩), .int .i64 n] W (Gives fun v w' => v = .int .i64 (rbody r n).2 ∧ Holds w0 w' (aI p s' :: aR q (rbody r n).1 :: RZ)) := by
  obtain ⟨A, cap, hR, _, hst⟩ := Holds.rin h.swap
  refine (RBody_calls W q A cap r hR n hn (by omega)).mono ?_
  rintro e w' ⟨v, rfl, rfl, A', cap', hin, hm, hA⟩
  exact Gives.mk ⟨rfl, (hst _ _ _ _ hin hm hA).swap⟩
end
set_option maxRecDepth 100000 in
set_option maxHeartbeats 4000000 in
theorem dact_calls (w0 w : World) (d : Nat) (L : List PR) (T K : Nat) (h : Desk w0 w d L T K) (kind at_ nn : Int) (hb1 : -9223372036854775808 ≤ kind ∧ kind ≤ 9223372036854775807) (hb2 : -9223372036854775808 ≤ at_ ∧ at_ ≤ 9223372036854775807) (hb3 : -9223372036854775808 ≤ nn ∧ nn ≤ 9223372036854775807)
    (Ad : Option Addr) (nd cd : Nat) (bs : List UInt8) (hd : RdB w0 Ad nd cd bs) (hT : T + nd ≤ 100000000000) (hK : K ≤ 10000000000) (hL : L.length ≤ 4) (hL0 : 0 < L.length) (hG : Lw w0) :
    Calls Try.prog 10 #[.pointer (some ⟨d, 0, none⟩), .agg #[.int .i64 kind, .int .i64 at_, .int .i64 nn, .slice Ad nd cd]] w (Gives (ActAtD w0 d L (T + nd) (K + 1))) := by
  have hdn := hd.blen
  obtain ⟨a, hok, hh⟩ := h
  obtain ⟨c0, c1, c5⟩ := desk_cells hh
  have hdl := World.block_lt_of_cell? _ _ c0
  simp only [] at hdl
  have HX0 := Holds.alloc_blk hh [.int .i64 kind, .int .i64 at_, .int .i64 nn, .slice Ad nd cd] 36
  have HX0 := Lib.hid HX0
  have HH := Lib.hid (And.intro hok (And.intro hd (And.intro hG hdn)))
  have HC := Lib.hid (fun W => (among_calls W at_ L.length hb2 (by omega)).mono fun e w' (he : e = .returned (.int .i64 (among at_ L.length)) ∧ W = w') => (⟨he.1, he.2.symm⟩ : e = .returned (.int .i64 (among at_ L.length)) ∧ w' = W))
  clear hok hh hd hG hdn
  go_enter Try.func10, Try.ntmps10
  go_wp2_with fail
  go_quiet ((go_at_call 19; exact Calls.quiet_of_same (HC.out _)))
  obtain ⟨hr1, hr2⟩ := among_range at_ L.length (by omega)
  obtain ⟨k, hk0⟩ := Int.eq_ofNat_of_zero_le hr1
  rw [hk0]
  have hk : k < L.length := by omega
  obtain ⟨W, hW⟩ : ∃ W, W = (w.alloc (.cells #[.int .i64 kind, .int .i64 at_, .int .i64 nn, .slice Ad nd cd] 36)).drewN nq := ⟨_, rfl⟩
  rw [← hW]
  have HX : Holds w0 W ([aBlk w.heap.size [.int .i64 kind, .int .i64 at_, .int .i64 nn, .slice Ad nd cd] 36] ++ deskL d a L) := by rw [hW]; exact HX0.out.drewN nq
  generalize w.heap.size = X at HX ⊢
  clear hr1 hr2 hk0 hW HX0 c0 c1 c5 hdl HC
  have hx := (show Holds w0 W (aBlk X [.int .i64 kind, .int .i64 at_, .int .i64 nn, .slice Ad nd cd] 36 :: _) from HX).blk.1
  have x0 := hx.cell 0
  have x2 := hx.cell 2
  have x3 := hx.cell 3
  simp only [List.getElem?_cons_zero, List.getElem?_cons_succ] at x0 x2 x3
  have HX := Lib.hid HX
  clear hx
  go_wp2_with fail
  with_reducible refine (among_calls W kind 6 hb1 (by omega)).mono ?_
  rintro e w' ⟨rfl, rfl⟩
  obtain ⟨hr1, hr2⟩ := among_range kind 6 (by omega)
  obtain ⟨j, hj0⟩ := Int.eq_ofNat_of_zero_le hr1
  rw [hj0]
  have hj : j < 6 := by omega
  clear hr1 hr2 hj0
  have hD : Desk w0 W d L T K := ⟨a, HH.out.1, HX.out.tail⟩
  have hways : j = 0 ∨ j = 1 ∨ j = 2 ∨ j = 3 ∨ j = 4 ∨ j = 5 := by omega
  have HD := Lib.hid hD
  clear hD hj
  rcases hways with rfl | rfl | rfl | rfl | rfl | rfl
  · -- feed
    go_wp2_with fail
    with_reducible refine (dfeed_calls w0 W d L T K HD.out k hk Ad nd cd bs HH.out.2.1 hT hL).mono ?_
    rintro e w3 ⟨v, rfl, rfl, _, hD3⟩
    rw [HH.out.2.2.2] at hD3
    have HF := Lib.hid hD3
    clear hD3
    go_wp2_with fail
    go_ret
    exact Gives.mk ⟨rfl, _, by rw [List.length_set]; exact hL, by rw [List.length_set]; exact Nat.le_refl _, Desk.mono HF.out (Nat.le_refl _) (Nat.le_succ _)⟩
  · -- next
    go_wp2_with fail
    with_reducible refine (dnext_calls w0 W d L T K HD.out k hk (by omega) hK hL HH.out.2.2.1).mono ?_
    rintro e w3 ⟨v, rfl, rfl, _, hD3⟩
    have HF := Lib.hid hD3
    clear hD3
    go_wp2_with fail
    go_ret
    exact Gives.mk ⟨rfl, _, by rw [List.length_set]; exact hL, by rw [List.length_set]; exact Nat.le_refl _, Desk.mono HF.out (by omega) (Nat.le_refl _)⟩
  · -- a body is awaited
    obtain ⟨⟨gA, oA, eA, -, -⟩, ⟨gB, oB, eB, -, -⟩⟩ := desk_at HX.out.tail k hk
    have hE := HH.out.1.eqv _ (List.getElem_mem hk)
    obtain ⟨RZ, HZ, HZB⟩ := desk_zoom HX.out.drew k hk
    have hS : ∀ (w' : World), (∃ s' r', Holds w0 w' (aI L[k].p s' :: aR L[k].q r' :: RZ)) → w'.cell? ⟨d, 0, none⟩ = some (.slice (some ⟨gA, oA, none⟩) L.length a.ca) ∧ w'.cell? ⟨d, 1, none⟩ = some (.slice (some ⟨gB, oB, none⟩) L.length a.cb) ∧ w'.cell? ⟨gA, oA + k, none⟩ = some (.pointer (some ⟨L[k].p, 0, none⟩)) ∧ w'.cell? ⟨gB, oB + k, none⟩ = some (.pointer (some ⟨L[k].q, 0, none⟩)) ∧ w'.cell? ⟨X, 2, none⟩ = some (.int .i64 nn) := fun w' ⟨s', r', hz⟩ => by
      have h1 := HZB [] w' s' r' hz
      have h2 := (show Holds w0 w' (aBlk X [.int .i64 kind, .int .i64 at_, .int .i64 nn, .slice Ad nd cd] 36 :: deskL d a (L.set k ⟨L[k].p, s', L[k].q, r'⟩)) from h1)
      obtain ⟨c0, c1, -⟩ := desk_cells h2.tail
      obtain ⟨⟨g1, o1, e1, y1, -⟩, ⟨g2, o2, e2, y2, -⟩⟩ := desk_at h2.tail k (by rw [List.length_set]; exact hk)
      have hc := h2.blk.1.cell 2
      simp only [List.getElem_set_self, List.getElem?_cons_zero, List.getElem?_cons_succ] at y1 y2 hc
      rw [eA] at e1 c0
      rw [eB] at e2 c1
      cases e1
      cases e2
      rw [List.length_set] at c0 c1
      exact ⟨c0, c1, y1, y2, hc⟩
    have hrs : L[k].r.held.length ≤ 100000000000 := by rw [← hE.1.held]; have := hE.2; omega
    have HB1 := Lib.hid (fun W' r' (h : Holds w0 W' (aI L[k].p L[k].s :: aR L[k].q r' :: RZ)) => body_any (w0 := w0) (p := L[k].p) (q := L[k].q) (s := L[k].s) (RZ := RZ) nn hb3 (by have := hE.2; omega) W' r' h)
    have HB2 := Lib.hid (fun W' s' (h : Holds w0 W' (aI L[k].p s' :: aR L[k].q L[k].r :: RZ)) => rbody_any (w0 := w0) (p := L[k].p) (q := L[k].q) (r := L[k].r) (RZ := RZ) nn hb3 hrs W' s' h)
    have HQ := Lib.hid hS
    have HE := Lib.hid (And.intro hE HZB)
    have HMK : Hid (∀ W', Holds w0 W' (aI L[k].p (body L[k].s nn).1 :: aR L[k].q (rbody L[k].r nn).1 :: RZ) → Desk w0 W' d (L.set k ⟨L[k].p, (body L[k].s nn).1, L[k].q, (rbody L[k].r nn).1⟩) (T + nd) (K + 1)) := fun W' hz => by
      refine ⟨a, ⟨HH.out.1.e1, HH.out.1.e2, fun o ho => Nat.le_trans (HH.out.1.fb o ho) (Nat.le_add_right _ _), Nat.le_trans HH.out.1.cnt (by omega), fun x hx => ?_⟩, (HZB [] _ _ _ hz).tail⟩
      rcases List.mem_or_eq_of_mem_set hx with hx | rfl
      · exact ⟨(HH.out.1.eqv x hx).1, Nat.le_trans (HH.out.1.eqv x hx).2 (Nat.le_add_right _ _)⟩
      · exact ⟨(hE.1.body nn).1, Nat.le_trans (body_len _ _) (Nat.le_trans hE.2 (Nat.le_add_right _ _))⟩
    clear hS hE HZB eA eB x0 x2 x3 hrs
    go_wp2_with fail
    go_region_held3 (fun w' => w'.cell? ⟨d, 0, none⟩ = some (.slice (some ⟨gA, oA, none⟩) L.length a.ca) ∧ w'.cell? ⟨d, 1, none⟩ = some (.slice (some ⟨gB, oB, none⟩) L.length a.cb) ∧ w'.cell? ⟨gA, oA + k, none⟩ = some (.pointer (some ⟨L[k].p, 0, none⟩)) ∧ w'.cell? ⟨gB, oB + k, none⟩ = some (.pointer (some ⟨L[k].q, 0, none⟩)) ∧ w'.cell? ⟨X, 2, none⟩ = some (.int .i64 nn)) (first | exact HQ.out _ ⟨_, _, by assumption⟩ | go_keep) (first | (go_at_call 26; refine (HB1.out _ _ (by assumption)).mono ?_; rintro e w9 ⟨v, rfl, rfl, hz9⟩) | (go_at_call 30; refine (HB2.out _ _ (by assumption)).mono ?_; rintro e w8 ⟨v, rfl, rfl, hz8⟩))
    all_goals
      first
      | have HF := Lib.hid (HMK.out _ hz8)
      | have HF := Lib.hid (HMK.out _ hz9)
      clear hz8 hz9
      go_wp2_with fail
      go_ret
      refine Gives.mk ⟨?_, _, by rw [List.length_set]; exact hL, by rw [List.length_set]; exact Nat.le_refl _, HF.out⟩
      show Value.bool ((body L[k].s nn).2 == (rbody L[k].r nn).2) = .bool true
      rw [(HE.out.1.1.body nn).2, beq_self_eq_true]
  · -- what is held
    obtain ⟨⟨gA, oA, eA, xA, -⟩, ⟨gB, oB, eB, xB, -⟩⟩ := desk_at HX.out.tail k hk
    obtain ⟨c0, c1, c5⟩ := desk_cells HX.out.tail
    rw [eA] at c0
    rw [eB] at c1
    have hE := HH.out.1.eqv _ (List.getElem_mem hk)
    obtain ⟨RZ, HZ, HZB⟩ := desk_zoom HX.out k hk
    have HC1 := Lib.hid (fun n => by
      obtain ⟨A, cap, hI, _, _⟩ := Holds.ain (HZ.drewN n)
      exact (Held_calls (W.drewN n) L[k].p A cap L[k].s hI).mono fun e w' (he : e = .returned (.int .i64 L[k].s.held.length) ∧ W.drewN n = w') => (⟨he.1, he.2.symm⟩ : e = .returned (.int .i64 L[k].s.held.length) ∧ w' = W.drewN n))
    have HC2 := Lib.hid (fun n => by
      obtain ⟨A, cap, hR, _, _⟩ := Holds.rin (HZ.swap.drewN n)
      have := (RHeld_calls (W.drewN n) L[k].q A cap L[k].r hR).mono fun e w' (he : e = .returned (.int .i64 L[k].r.held.length) ∧ W.drewN n = w') => (⟨he.1, he.2.symm⟩ : e = .returned (.int .i64 L[k].r.held.length) ∧ w' = W.drewN n)
      rw [← hE.1.held] at this
      exact this)
    clear HZ HZB eA eB hE x0 x2 x3 c5
    go_wp2_with fail
    go_quiet ((first | (go_at_call 13; exact Calls.quiet_of_same (HC1.out _)) | (go_at_call 14; exact Calls.quiet_of_same (HC2.out _))))
    have HF := Lib.hid (Desk.mono (⟨a, HH.out.1, (HX.out.drewN nq).tail⟩ : Desk w0 (W.drewN nq) d L T K) (Nat.le_add_right T nd) (Nat.le_succ K))
    clear xA xB c0 c1 HC1 HC2
    go_wp2_with fail
    go_ret
    exact Gives.mk ⟨by simp, L, hL, Nat.le_refl _, HF.out⟩
  · -- a clone
    go_wp2_with fail
    with_reducible refine (dclone_calls w0 W d L T K HD.out k hk nn hb3 (by omega) hL).mono ?_
    rintro e w3 ⟨v, rfl, rfl, L', hl1, hl2, hD3⟩
    have HF := Lib.hid hD3
    clear hD3
    go_wp2_with fail
    go_ret
    exact Gives.mk ⟨rfl, L', hl1, hl2, Desk.mono HF.out (by omega) (Nat.le_succ _)⟩
  · -- the bodies are written
    go_wp2_with fail
    have hok := HH.out.1
    have hcnt := hok.cnt
    have hh := HX.out.tail
    with_reducible refine (write_calls w0 W d (.slice a.Aa L.length a.ca) (.slice a.Ab L.length a.cb) (.slice a.Al a.nl a.cl) a.Ao a.no a.co a.Aw a.no a.cw a.oo a.ow a.fo a.fw _ hh hok.e1 hok.e2 (by omega) (fun o ho => Nat.le_trans (hok.fb o ho) (by omega))).mono ?_
    rintro e w3 ⟨v, rfl, rfl, Ao', co', Aw', cw', O', W', k1, k2, k3, hh3⟩
    have HF : Hid (Desk w0 w3 d L (T + nd) (K + 1)) := by
      refine ⟨{ a with Ao := Ao', Aw := Aw', no := a.no + a.fo.length, co := co', cw := cw', oo := O', ow := W', fo := [], fw := [] }, ⟨k3, rfl, fun o ho => by simp at ho, by simp only [List.length_nil]; omega, fun x hx => ⟨(hok.eqv x hx).1, Nat.le_trans (hok.eqv x hx).2 (by omega)⟩⟩, ?_⟩
      rw [← k1] at hh3
      unfold deskL deskB
      rw [← k1]
      simp only [List.append_nil, List.map_nil, List.nil_append] at hh3 ⊢
      exact hh3
    clear hh3 hok hh hcnt
    go_wp2_with fail
    go_ret
    exact Gives.mk ⟨rfl, L, hL, Nat.le_refl _, HF.out⟩
end Go.Proofs.Ytoeaaomgilgncaa
