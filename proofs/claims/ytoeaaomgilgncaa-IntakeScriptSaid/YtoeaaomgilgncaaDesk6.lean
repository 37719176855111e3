/-
  IntakeScript: the desk: feed.
-/
import Derived.Test.YtoeaaomgilgncaaDesk5
namespace Go.Proofs.Ytoeaaomgilgncaa
open Go.RowKit Go.Mem Go.Intake
set_option linter.unusedVariables false

section
variable {w0 w : World} {d : Nat} {a : DA} {L : List PR}
/-- The memory in which pieces are lent, to the front. -/
theorem desk_lend (h : Holds w0 w (deskL d a L)) : ∃ R', Holds w0 w (aB a.Al a.nl a.cl a.lent :: R') ∧ ∀ (w' : World) (A' : Option Addr) (n' c' : Nat) (l' : List UInt8), Holds w0 w' (aB A' n' c' l' :: R') →
    w'.cell? ⟨d, 5, none⟩ = some (.slice a.Al a.nl a.cl) ∧ w'.frozen? ⟨d, 5, none⟩ = false ∧ Holds w0 (w'.setCell ⟨d, 5, none⟩ (.slice A' n' c')) (deskL d { a with Al := A', nl := n', cl := c', lent := l' } L) ∧ (A' = a.Al → n' = a.nl → c' = a.cl → Holds w0 w' (deskL d { a with lent := l' } L)) := by
  have h1 : Holds w0 w ((deskB d a L.length ++ (a.fo.map aO ++ (a.fw.map aO ++ [aOwn 38 1 a.Aa L.length a.ca (L.map PR.va), aOwn 40 1 a.Ab L.length a.cb (L.map PR.vb)]))) ++ aB a.Al a.nl a.cl a.lent :: (L.map aIp ++ (L.map aRp ++ []))) := by
    have := h
    unfold deskL deskR at this
    simpa [List.append_assoc] using this
  refine ⟨_, h1.front, fun w' A' n' c' l' h' => ?_⟩
  have hb : Holds w0 w' (aBlk d (deskCells (.slice a.Aa L.length a.ca) (.slice a.Ab L.length a.cb) a.Ao a.no a.co a.Aw a.no a.cw a.oo.length (.slice a.Al a.nl a.cl)) 32 :: _) := h'.swap
  have hback : ∀ {w'' : World} {v : Value}, Holds w0 w'' (aB A' n' c' l' :: (bookL d (.slice a.Aa L.length a.ca) (.slice a.Ab L.length a.cb) v a.oo.length a.Ao a.no a.co a.Aw a.no a.cw ((a.oo ++ a.fo).map OB.val) ((a.ow ++ a.fw).map OB.val) (a.oo ++ a.ow) ++ (a.fo.map aO ++ (a.fw.map aO ++ [aOwn 38 1 a.Aa L.length a.ca (L.map PR.va), aOwn 40 1 a.Ab L.length a.cb (L.map PR.vb)]))) ++ (L.map aIp ++ (L.map aRp ++ []))) →
      Holds w0 w'' ((bookL d (.slice a.Aa L.length a.ca) (.slice a.Ab L.length a.cb) v a.oo.length a.Ao a.no a.co a.Aw a.no a.cw ((a.oo ++ a.fo).map OB.val) ((a.ow ++ a.fw).map OB.val) (a.oo ++ a.ow) ++ (a.fo.map aO ++ (a.fw.map aO ++ [aOwn 38 1 a.Aa L.length a.ca (L.map PR.va), aOwn 40 1 a.Ab L.length a.cb (L.map PR.vb)]))) ++ aB A' n' c' l' :: (L.map aIp ++ (L.map aRp ++ []))) := fun h => Holds.back h
  have c5 := hb.blk.1.cell 5
  have f5 := hb.blk.1.frozen 5 (by simp [deskCells])
  simp only [deskCells, List.getElem?_cons_zero, List.getElem?_cons_succ] at c5
  refine ⟨c5, f5, ?_, fun e1 e2 e3 => ?_⟩
  · have h2 := (hb.store 5 (.slice A' n' c')).swap
    have h3 := hback (w'' := w'.setCell ⟨d, 5, none⟩ (.slice A' n' c')) (v := .slice A' n' c') h2
    unfold deskL deskB deskR
    simpa [List.append_assoc] using h3
  · subst e1 e2 e3
    have h3 := hback (w'' := w') (v := .slice a.Al a.nl a.cl) h'
    unfold deskL deskB deskR
    simpa [List.append_assoc] using h3
end

def behind : ByteArray := ⟨#[98, 101, 104, 105, 110, 100]⟩
def FeedAt (w0 : World) (d : Nat) (L : List PR) (k : Nat) (bs : List UInt8) (T K : Nat) (v : Value) (w' : World) : Prop :=
  v = .bool true ∧ ∃ hk : k < L.length, Desk w0 w' d (L.set k ⟨L[k].p, feed L[k].s bs, L[k].q, rfeed L[k].r bs⟩) (T + bs.length) K

set_option maxRecDepth 100000 in
set_option maxHeartbeats 4000000 in
theorem dfeed_calls (w0 w : World) (d : Nat) (L : List PR) (T K : Nat) (h : Desk w0 w d L T K) (k : Nat) (hk : k < L.length) (Ab : Option Addr) (n cb : Nat) (bs : List UInt8) (hb : RdB w0 Ab n cb bs) (hT : T + n ≤ 100000000000) (hL : L.length ≤ 4) :
    Calls Try.prog 29 #[.pointer (some ⟨d, 0, none⟩), .int .i64 k, .slice Ab n cb] w (Gives (FeedAt w0 d L k bs T K)) := by
  obtain ⟨a, hok, hh⟩ := h
  have hbn := hb.blen
  obtain ⟨c0, c1, c5⟩ := desk_cells hh
  obtain ⟨R', HA, HBK⟩ := desk_lend hh
  have hlo := desk_lent hh
  have h0 := hlo.headed (m := 0) (Nat.zero_le _)
  have hs0 := fun W => slice_hi W a.Al a.nl a.cl 0 (Nat.zero_le _)
  have hbw := hb.below hh.below
  have H := Lib.hid (And.intro hok (And.intro hh (And.intro hbn (And.intro h0 hbw))))
  have HA := Lib.hid HA
  have HBK := Lib.hid HBK
  have HR := Lib.hid hb
  clear hok hh hbn hlo h0 hbw hb
  go_enter Try.func29, Try.ntmps29
  go_upto_region 2 with (at_builtin; refine wpList_append _ rfl (.tmp 14) (.tmp 15) 30 30 rfl Try.elt30 a.Al 0 a.cl (bc []) rfl H.out.2.2.2.1 (.slice Ab n cb) n (bc bs) rfl (Rd.src H.out.2.2.2.2 Try.underlying30 (bc_one _)) (by unfold maxLen; omega) (by omega) ?_; intro A1 p1 w1 ho1 hm1 hin1 _)
  have H1 := Lib.hid (Holds.append (n' := n) (xs' := bc bs) HA.out (by simpa using ho1) hm1 (fun k hk => by simpa using hin1 k hk))
  clear ho1 hm1 hin1 c0 c1 c5
  have HO1 := Lib.hid H1.out.own.1
  have hbh : byteCells behind = bc behind.data.toList := rfl
  go_upto_region 3 with (at_builtin; refine wpList_append _ rfl (.tmp 17) (.const (.string behind)) 30 9 rfl Try.elt30 A1 n p1 (bc bs) rfl HO1.out (.string behind) 6 (bc behind.data.toList) rfl (Src.ofString _ Try.underlying9 behind) (by unfold maxLen; omega) (by omega) ?_; intro A2 p2 w2 ho2 hm2 hin2 _)
  rw [← bc_append] at ho2
  have H2 := Lib.hid (Holds.append (n' := n + 6) (xs' := bc (bs ++ behind.data.toList)) H1.out ho2 hm2 (fun k hk => by simpa using hin2 k hk))
  clear ho2 hm2 hin2 HO1 H1
  obtain ⟨k5, f5, hst, -⟩ := HBK.out _ _ _ _ _ H2.out
  have HST := Lib.hid hst
  clear hst hbh
  go_upto_region 4 with (fail)
  refine wp_at fun W hW => ?_
  have HD : Holds w0 W (deskL d { a with Al := A2, nl := n + 6, cl := p2, lent := bs ++ behind.data.toList } L) := by
    rw [hW]
    exact HST.out
  clear hW k5 f5 HST H2 HBK HA
  have hok2 : DeskOk { a with Al := A2, nl := n + 6, cl := p2, lent := bs ++ behind.data.toList } L T K := ⟨H.out.1.e1, H.out.1.e2, H.out.1.fb, H.out.1.cnt, H.out.1.eqv⟩
  obtain ⟨a2, ha2⟩ : ∃ a2 : DA, a2 = { a with Al := A2, nl := n + 6, cl := p2, lent := bs ++ behind.data.toList } := ⟨_, rfl⟩
  rw [← ha2] at HD hok2
  have e1 : a2.Al = A2 := by rw [ha2]
  have e2 : a2.nl = n + 6 := by rw [ha2]
  have e3 : a2.cl = p2 := by rw [ha2]
  have e4 : a2.lent = bs ++ behind.data.toList := by rw [ha2]
  have hbn := H.out.2.2.1
  have HR := Lib.hid (And.intro HR.out (And.intro hok2 (And.intro hbn e4)))
  clear ha2 H hok2 hbn e4
  subst e1 e3
  obtain ⟨⟨gA, oA, eA, xA, -⟩, ⟨gB, oB, eB, xB, -⟩⟩ := desk_at HD k hk
  obtain ⟨c0, c1, c5⟩ := desk_cells HD
  have hlo := desk_lent HD
  rw [e2] at hlo c5
  have HE2 := Lib.hid e2
  clear e2
  have hr1 : RdB W a2.Al n a2.cl bs := by
    have := hlo.rd.bcut 0 n (by omega) (by omega)
    simp only [cutA_zero, List.drop_zero, Nat.sub_zero] at this
    rwa [HR.out.2.2.2, List.take_left' HR.out.2.2.1] at this
  have hsl := fun W => slice_hi W a2.Al (n + 6) a2.cl n (by have := hlo.le; omega)
  rw [eA] at c0
  have HDD := Lib.hid HD
  obtain ⟨RZ, HZ, HZB⟩ := desk_zoom (R0 := []) HD.drew k hk
  obtain ⟨AI, capI, hI, hIl, hIs⟩ := Holds.ain HZ
  have hE := (HR.out.2.1.eqv _ (List.getElem_mem hk))
  have hsz : L[k].s.held.length ≤ T := hE.2
  have HC := Lib.hid (Feed_calls W.drew L[k].p AI capI L[k].s hI a2.Al n a2.cl bs (hr1.mod ((Mod.refl (fun _ => False) W).drew) fun _ _ h => h) (fun _ => hlo.drew.not_blk hI.blk (by decide)) (by omega))
  have HI := Lib.hid (And.intro hIs (And.intro HZB hIl))
  clear HD hlo hr1 HZ HZB hI hIl hIs hE
  go_still_tail 11, (by kernel_rfl)
  go_wp2_with fail
  with_reducible refine HC.out.mono ?_
  rintro e w3 ⟨v, rfl, AJ, capJ, rfl, hJ, hmJ, hAJ⟩
  have HD3 := HI.out.2.1 [] _ _ _ (HI.out.1 _ _ _ _ hJ hmJ hAJ)
  have hk1 : k < (L.set k ⟨L[k].p, feed L[k].s bs, L[k].q, L[k].r⟩).length := by rw [List.length_set]; exact hk
  obtain ⟨-, ⟨gB', oB', eB', xB', -⟩⟩ := desk_at HD3 k hk1
  obtain ⟨c0, c1, c5⟩ := desk_cells HD3
  rw [List.getElem_set_self] at xB'
  rw [eB', List.length_set] at c1
  obtain ⟨RZ2, HZ, HZB⟩ := desk_zoom (R0 := []) HD3 k hk1
  simp only [List.getElem_set_self, List.set_set] at HZ HZB
  obtain ⟨AR, capR, hI, hIl, hIs⟩ := Holds.rin HZ.swap
  have hE := (HR.out.2.1.eqv _ (List.getElem_mem hk))
  have hsz2 : L[k].r.held.length ≤ T := by rw [← hE.1.held]; exact hE.2
  have HC2 := Lib.hid (RFeed_calls w3 L[k].q AR capR L[k].r hI Ab n cb bs (HR.out.1.below HD3.below) (fun hne j hj => by
    have h1 := Rd.bblk_lt HR.out.1 hne j hj
    have h2 := HD3.size
    exact ⟨by omega, fun hf => by have := (hIl j hf).1; omega⟩) (by omega))
  have HI2 := Lib.hid (And.intro hIs HZB)
  clear HC HI HZ HZB hI hIl hIs hE HD3 hJ hmJ hAJ c0 c5 xA xB
  go_wp2_with fail
  with_reducible refine HC2.out.mono ?_
  rintro e w4 ⟨v, rfl, rfl, AS, capS, hS, hmS, hAS⟩
  have HD4 := HI2.out.2 [] _ _ _ (HI2.out.1 _ _ _ _ hS hmS hAS).swap
  have hlo := desk_lent HD4
  rw [HE2.out, HR.out.2.2.2] at hlo
  have hr1 : RdB w4 a2.Al n a2.cl bs := by
    have := hlo.rd.bcut 0 n (by omega) (by omega)
    simp only [cutA_zero, List.drop_zero, Nat.sub_zero] at this
    rwa [List.take_left' HR.out.2.2.1] at this
  have hr2 : RdB w4 (cutA a2.Al a2.cl n 1) 6 (a2.cl - n) behind.data.toList := by
    have := hlo.rd.bcut n (n + 6) (by omega) (by omega)
    rw [Nat.add_sub_cancel_left, List.drop_left' HR.out.2.2.1] at this
    exact this
  have hcv : ∀ q, (convert 30 9 (.slice (cutA a2.Al a2.cl n 1) 6 (a2.cl - n))).run Try.prog (w4.drewN q) = .ok (.string behind) (w4.drewN q) := fun q =>
    Rd.string (Rd.mod hr2 ((Mod.refl (fun _ => False) w4).drewN q) fun _ _ => id) Try.underlying30 Try.underlying5 Try.underlying9
  have hsl2 : ∀ W, (Instr.slice 30 (.slice a2.Al (n + 6) a2.cl) (some (.int .i64 n)) none none).run Try.prog W = .ok (.slice (cutA a2.Al a2.cl n 1) 6 (a2.cl - n)) W := fun W => by
    have := slice_lo W a2.Al (n + 6) a2.cl n (by omega)
    rwa [Nat.add_sub_cancel_left] at this
  have HS := Lib.hid (And.intro hr1 (HR.out.1.below HD4.below))
  have HD4 := Lib.hid HD4
  clear HC2 HI2 hS hmS hAS hlo hr1 hr2 c1 xB'
  go_wp2_with fail
  with_reducible refine (same_calls w4 a2.Al Ab n n a2.cl cb bs bs HS.out.1 HS.out.2).mono ?_
  rintro e w5 ⟨rfl, q, rfl⟩
  rw [beq_self_eq_true]
  have hbt : (behind.toList == [98, 101, 104, 105, 110, 100]) = true := by rw [ByteArray.toList_eq]; rfl
  have HI : Hid (∃ l : List UInt8, l.length = n + 6 ∧ Holds w0 (w4.drewN q) (deskL d { a2 with lent := l } (L.set k ⟨L[k].p, feed L[k].s bs, L[k].q, rfeed L[k].r bs⟩))) := by
    refine ⟨a2.lent, ?_, HD4.out.drewN q⟩
    rw [HR.out.2.2.2, List.length_append, HR.out.2.2.1]
    rfl
  go_wp2_with fail
  clear hcv hsl2 HS
  obtain ⟨g, off, hAl⟩ := (desk_lent HD4.out).some_of (by rw [bc_length, HR.out.2.2.2, List.length_append]; simp [behind])
  rw [hAl]
  have HAl := Lib.hid hAl
  clear hAl
  go_loopg [60] (n + 6) (fun gg v wr => ∃ i : Nat, i ≤ n + 6 ∧ gg = n + 6 - i ∧ v = .int .i64 i ∧ Hid (∃ l : List UInt8, l.length = n + 6 ∧ Holds w0 wr (deskL d { a2 with lent := l } (L.set k ⟨L[k].p, feed L[k].s bs, L[k].q, rfeed L[k].r bs⟩))))
  case atStart => exact ⟨0, by omega, by omega, rfl, HI⟩
  case round =>
    clear HI
    obtain ⟨i, hi, rfl, rfl, HI⟩ := hrel
    by_cases hlt : i < n + 6
    · obtain ⟨l, hl, HD⟩ := HI.out
      obtain ⟨R3, HA, HB⟩ := desk_lend HD
      simp only [] at HA HB
      rw [HE2.out, HAl.out] at HA
      have hoa := HA.own.1
      obtain ⟨u, x0⟩ : ∃ u, wr.cell? ⟨g, off + i, none⟩ = some u := ⟨_, hoa.cell i (by simp; omega)⟩
      have f0 := hoa.frozen i (by simp; omega)
      have H3 : Hid (∃ l : List UInt8, l.length = n + 6 ∧ Holds w0 (wr.setCell ⟨g, off + i, none⟩ (.int .u8 35)) (deskL d { a2 with lent := l } (L.set k ⟨L[k].p, feed L[k].s bs, L[k].q, rfeed L[k].r bs⟩))) :=
        ⟨l.set i 35, by rw [List.length_set]; exact hl, (HB _ _ _ _ _ (Holds.own_set (o := ⟨some ⟨g, off, none⟩, n + 6, a2.cl, l⟩) HA rfl i (by simp only []; omega) 35 _ rfl)).2.2.2 HAl.out.symm HE2.out.symm rfl⟩
      clear HD HA HB hoa HI hl
      go_wp2_with fail
      go_roundg (n + 6 - (i + 1))
      case measure => omega
      case rel => exact ⟨i + 1, by omega, rfl, by go_num, H3⟩
    · obtain rfl : i = n + 6 := by omega
      go_wp2_with fail
      go_ret
      obtain ⟨l, hl, HD⟩ := HI.out
      refine Gives.mk ⟨rfl, hk, { a2 with lent := l }, ⟨HR.out.2.1.e1, HR.out.2.1.e2, fun o ho => Nat.le_trans (HR.out.2.1.fb o ho) (by omega), HR.out.2.1.cnt, fun x hx => ?_⟩, HD⟩
      rcases List.mem_or_eq_of_mem_set hx with hx | rfl
      · exact ⟨(HR.out.2.1.eqv x hx).1, Nat.le_trans (HR.out.2.1.eqv x hx).2 (by omega)⟩
      · have hE := HR.out.2.1.eqv _ (List.getElem_mem hk)
        refine ⟨hE.1.feed bs, ?_⟩
        have h1 := rfeed_held L[k].r bs
        have h2 := (hE.1.feed bs).held
        have h3 := hE.1.held
        simp only []
        rw [h2]
        have := hE.2
        rw [h3] at this
        omega
end Go.Proofs.Ytoeaaomgilgncaa
