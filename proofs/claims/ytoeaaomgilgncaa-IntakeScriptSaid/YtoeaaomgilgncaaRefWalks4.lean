/-
  IntakeScript: the walk of the document's Next.
-/
import Derived.Test.YtoeaaomgilgncaaRefWalks3
namespace Go.Proofs.Ytoeaaomgilgncaa
open Go.RowKit Go.Mem Go.Intake
set_option linter.unusedVariables false

def RNextPost (w : World) (p : Nat) (A : Option Addr) (r : RS) (v : Value) (w' : World) : Prop :=
  ∃ A' cap' Ab nb cb, v = .tuple #[.agg #[.int .i64 ((rnext r).2.getD zeroItem).kind, .string ⟨((rnext r).2.getD zeroItem).text.toArray⟩, .slice Ab nb cb], .bool (rnext r).2.isSome] ∧ RIn w' p A' cap' (rnext r).1 ∧
    OwnB w' 5 Ab nb cb ((rnext r).2.getD zeroItem).body ∧ (∀ k, InB Ab k → w.heap.size ≤ k ∧ ¬ InB A' k) ∧ Mod (foot p A) w w' ∧ ∀ k, InB A' k → InB A k ∨ w.heap.size ≤ k

/-- Nothing is told. -/
theorem RNextPost.none_ {w w' : World} {p : Nat} {A : Option Addr} {cap : Nat} {r : RS} (h : RIn w p A cap r) (hm : Mod (fun _ => False) w w') (he : rnext r = (r, none)) : Gives (RNextPost w p A r) (.returned (.tuple #[.agg #[.int .i64 0, .string ⟨#[]⟩, .slice none 0 0], .bool false])) w' := by
  refine Gives.mk ?_
  unfold RNextPost
  rw [he]
  exact ⟨A, cap, none, 0, 0, rfl, h.mod hm fun _ _ h => h, Own.nil _ _ _, fun k hk => by simp at hk, hm.mono fun _ _ h => h.elim, fun k hk => .inl hk⟩
/-- An item without a body is told, of the intake's own state alone. -/
theorem RNextPost.kind_ {w w' : World} {p : Nat} {A : Option Addr} {cap : Nat} {r : RS} (kd : Int) (h : RIn w p A cap r) (hm : Mod (fun _ => False) (w.setCell ⟨p, 1, none⟩ (.int .i64 0)) w') (he : rnext r = ({ r with mode := 0 }, some (item kd [] []))) :
    Gives (RNextPost w p A r) (.returned (.tuple #[.agg #[.int .i64 kd, .string ⟨#[]⟩, .slice none 0 0], .bool true])) w' := by
  refine Gives.mk ?_
  unfold RNextPost
  rw [he]
  exact ⟨A, cap, none, 0, 0, rfl, (h.put 1 (.int .i64 0) { r with mode := 0 } (by simp [RCells]) rfl ⟨.inl rfl, h.ok.n⟩).mod hm fun _ _ h => h, Own.nil _ _ _, fun k hk => by simp at hk, (Mod.set w p 1 (.int .i64 0)).trans' hm (fun _ _ h => h.elim) |>.mono fun i _ e => .inl e, fun k hk => .inl hk⟩

theorem Mod.set3 (w : World) (b : Nat) (v0 v1 v2 : Value) : Mod (fun k => k = b) w (((w.setCell ⟨b, 0, none⟩ v0).setCell ⟨b, 1, none⟩ v1).setCell ⟨b, 2, none⟩ v2) :=
  (((Mod.refl (fun k => k = b) w).setCell (p := ⟨b, 0, none⟩) (fun _ => rfl) v0).setCell (p := ⟨b, 1, none⟩) (fun _ => rfl) v1).setCell (p := ⟨b, 2, none⟩) (fun _ => rfl) v2
/-- An item is told, its bytes new. -/
theorem RNextPost.told {w w2 W3 : World} {p : Nat} {A A' Ab : Option Addr} {cap' nb cb : Nat} {r r2 : RS} {kv : Int} {tx bd : List UInt8} (h2 : RIn w2 p A' cap' r2) (hp : p < w.heap.size) (hm : Mod (fun k => k = p) w w2) (hA : ∀ k, InB A' k → w.heap.size < k) (hm3 : Mod (fun k => k = w.heap.size) w2 W3)
    (hb : OwnB w2 5 Ab nb cb bd) (hab : ∀ k, InB Ab k → w.heap.size < k ∧ ¬ InB A' k) (he : rnext r = (r2, some ⟨kv, tx, bd⟩)) : Gives (RNextPost w p A r) (.returned (.tuple #[.agg #[.int .i64 kv, .string ⟨tx.toArray⟩, .slice Ab nb cb], .bool true])) W3 := by
  refine Gives.mk ?_
  unfold RNextPost
  rw [he]
  refine ⟨A', cap', Ab, nb, cb, rfl, h2.mod hm3 fun k hk e => ?_, hb.mod hm3 fun k hk e => ?_, fun k hk => ⟨Nat.le_of_lt (hab k hk).1, (hab k hk).2⟩, hm.trans' hm3 (fun i hi e => by omega) |>.mono fun i _ e => .inl e, fun k hk => .inr (Nat.le_of_lt (hA k hk))⟩
  · rcases hk with hk | hk
    · omega
    · have := hA k hk; omega
  · have := (hab k hk).1; omega

set_option maxRecDepth 100000 in
theorem RNext_long (w : World) (p : Nat) (A : Option Addr) (cap : Nat) (r : RS) (h : RIn w p A cap r) (hs : r.mode = 1) :
    Calls Try.prog 33 #[.pointer (some ⟨p, 0, none⟩)] w (Gives (RNextPost w p A r)) := by
  obtain ⟨c0, c1, c2, c3, c4, c5⟩ := h.cells
  have hlt := h.blk.lt
  have f1 := h.frozen 1
  rw [hs] at c1
  have H := Lib.hid (And.intro h hs)
  clear h hs c0 c2 c3 c4
  cases he : r.ended
  · rw [he] at c5
    have HE : Hid (rnext r = (r, none)) := by unfold rnext rnext1; rw [if_neg (by rw [H.out.2]; decide), if_pos H.out.2, if_neg (by simp [he])]; exact rfl
    clear he
    go_enter Try.func33, Try.ntmps33
    go_wp2
    refine bodyPost_ret (v := .tuple #[.agg #[.int .i64 0, .string ⟨#[]⟩, .slice none 0 0], .bool false]) (by simp [results, Try.results33, go_sem]) rfl (RNextPost.none_ H.out.1 ?_ HE.out)
    repeat (first | exact Mod.refl _ _ | apply Mod.alloc | apply Mod.drew | apply Mod.drewN)
  · rw [he] at c5
    have HE : Hid (rnext r = ({ r with mode := 0 }, some (item 2 [] []))) := by unfold rnext rnext1; rw [if_neg (by rw [H.out.2]; decide), if_pos H.out.2, if_pos he]; exact rfl
    clear he
    go_enter Try.func33, Try.ntmps33
    go_wp2
    refine bodyPost_ret (v := .tuple #[.agg #[.int .i64 2, .string ⟨#[]⟩, .slice none 0 0], .bool true]) (by simp [results, Try.results33, go_sem]) rfl (RNextPost.kind_ 2 H.out.1 ?_ HE.out)
    repeat (first | exact Mod.refl _ _ | apply Mod.alloc | apply Mod.drew | apply Mod.drewN)
set_option maxRecDepth 100000 in
theorem RNext_big (w : World) (p : Nat) (A : Option Addr) (cap : Nat) (r : RS) (h : RIn w p A cap r) (hs : r.mode = 3) :
    Calls Try.prog 33 #[.pointer (some ⟨p, 0, none⟩)] w (Gives (RNextPost w p A r)) := by
  obtain ⟨c0, c1, c2, c3, c4, c5⟩ := h.cells
  have hlt := h.blk.lt
  have f1 := h.frozen 1
  rw [hs] at c1
  have H := Lib.hid (And.intro h hs)
  clear h hs c0 c2 c4 c5
  by_cases he : r.n = 0
  · rw [he] at c3
    have HE : Hid (rnext r = ({ r with mode := 0 }, some (item 4 [] []))) := by unfold rnext rnext1; rw [if_neg (by rw [H.out.2]; decide), if_neg (by rw [H.out.2]; decide), if_neg (by rw [H.out.2]; decide), if_pos he]; exact rfl
    clear he
    go_enter Try.func33, Try.ntmps33
    go_wp2
    refine bodyPost_ret (v := .tuple #[.agg #[.int .i64 4, .string ⟨#[]⟩, .slice none 0 0], .bool true]) (by simp [results, Try.results33, go_sem]) rfl (RNextPost.kind_ 4 H.out.1 ?_ HE.out)
    repeat (first | exact Mod.refl _ _ | apply Mod.alloc | apply Mod.drew | apply Mod.drewN)
  · have hb : (r.n == 0) = false := by simpa using he
    have HE : Hid (rnext r = (r, none)) := by unfold rnext rnext1; rw [if_neg (by rw [H.out.2]; decide), if_neg (by rw [H.out.2]; decide), if_neg (by rw [H.out.2]; decide), if_neg he]; exact rfl
    clear he
    go_enter Try.func33, Try.ntmps33
    go_wp2
    refine bodyPost_ret (v := .tuple #[.agg #[.int .i64 0, .string ⟨#[]⟩, .slice none 0 0], .bool false]) (by simp [results, Try.results33, go_sem]) rfl (RNextPost.none_ H.out.1 ?_ HE.out)
    repeat (first | exact Mod.refl _ _ | apply Mod.alloc | apply Mod.drew | apply Mod.drewN)

set_option maxRecDepth 100000 in
set_option maxHeartbeats 1000000 in
theorem RNext_short (w : World) (p : Nat) (A : Option Addr) (cap : Nat) (r : RS) (h : RIn w p A cap r) (hs : r.mode = 0) (hf : find (r.held.take 224) = none) (hl : r.held.length < 224) :
    Calls Try.prog 33 #[.pointer (some ⟨p, 0, none⟩)] w (Gives (RNextPost w p A r)) := by
  obtain ⟨c0, c1, c2, c3, c4, c5⟩ := h.cells
  have hlt := h.blk.lt
  rw [hs] at c1
  have he : endAt r.held 224 = -1 := by unfold endAt; rw [hf]
  have HE : Hid (rnext r = (r, none)) := by unfold rnext; rw [if_pos hs, hf]; simp only []; rw [if_pos hl]; exact rfl
  have H := Lib.hid (And.intro h (And.intro hs he))
  have hd : decide (r.held.length < 224) = true := by simp; omega
  clear h hs hf he c0 c3 c4 c5
  go_enter Try.func33, Try.ntmps33
  go_wp2_with fail
  with_reducible refine (end_calls _ A r.held.length cap r.held (H.out.1.own.rd.mod ((Mod.refl (fun _ => False) w).alloc _) fun _ _ => id)).mono ?_
  rintro e w' ⟨rfl, rfl⟩
  rw [H.out.2.2]
  go_wp2_with fail
  refine bodyPost_ret (v := .tuple #[.agg #[.int .i64 0, .string ⟨#[]⟩, .slice none 0 0], .bool false]) (by simp [results, Try.results33, go_sem]) rfl (RNextPost.none_ H.out.1 ?_ HE.out)
  repeat (first | exact Mod.refl _ _ | apply Mod.alloc | apply Mod.drew | apply Mod.drewN)

set_option maxRecDepth 100000 in
set_option maxHeartbeats 1000000 in
theorem RNext_line (w : World) (p : Nat) (A : Option Addr) (cap : Nat) (r : RS) (h : RIn w p A cap r) (hs : r.mode = 0) (k : Nat) (hf : find (r.held.take 224) = some k) (hsz : r.held.length ≤ 140737488355328) :
    Calls Try.prog 33 #[.pointer (some ⟨p, 0, none⟩)] w (Gives (RNextPost w p A r)) := by
  obtain ⟨c0, c1, c2, c3, c4, c5⟩ := h.cells
  have hlt := h.blk.lt
  rw [hs] at c1
  have hk := find_lt hf
  rw [List.length_take] at hk
  have he : endAt r.held 224 = k := by unfold endAt; rw [hf]
  have HE : Hid (rnext r = ({ r with held := r.held.drop (k + 2) }, some (item 1 (r.held.take k) []))) := by unfold rnext; rw [if_pos hs, hf]; exact rfl
  have H := Lib.hid (And.intro h (And.intro hs he))
  clear h hs hf he c0 c3 c4 c5
  go_enter Try.func33, Try.ntmps33
  go_wp2_with fail
  with_reducible refine (end_calls _ A r.held.length cap r.held (H.out.1.own.rd.mod ((Mod.refl (fun _ => False) w).alloc _) fun _ _ => id)).mono ?_
  rintro e w' ⟨rfl, rfl⟩
  rw [H.out.2.2]
  go_wp2_with fail
  have hb1 := Blk.new w zi 54
  have hm1 := (Mod.refl (fun _ => False) w).alloc (.cells zi.toArray 54)
  have hi1 := H.out.1.mod hm1 fun _ _ h => h
  refine at_world fun W hW => ?_
  have hWe : W = w.alloc (.cells zi.toArray 54) := hW
  rw [← hWe] at hb1 hm1 hi1
  clear hWe hW c1 c2
  have H1 := Lib.hid (And.intro hb1 (And.intro hm1 hi1))
  clear hb1 hm1 hi1
  have hT := takes_calls W p A cap r H1.out.2.2 (k + 2) (by omega) hsz
  rw [show (((k + 2 : Nat)) : Int) = (k : Int) + 2 from by omega] at hT
  with_reducible refine hT.mono ?_
  clear hT
  rintro e w2 ⟨v, rfl, Ao, co, A', cap', rfl, ho, hin, hm2, hA', hAo⟩
  have hb2 := H1.out.1.mod hm2 (by omega)
  have x0 := hb2.cell 0
  have x1 := hb2.cell 1
  have x2 := hb2.cell 2
  have y0 := hb2.frozen 0 (by simp [zi])
  have y1 := hb2.frozen 1 (by simp [zi])
  have y2 := hb2.frozen 2 (by simp [zi])
  have hz := hb2.lt
  simp only [zi, List.getElem?_cons_zero, List.getElem?_cons_succ] at x0 x1 x2
  have hwW := H1.out.2.1.size
  have hsl := fun W => slice_hi W Ao (k + 2) co k (by have := ho.le; omega)
  have hpre : RdB w2 Ao k co (r.held.take k) := by
    have := ho.rd.bcut 0 k (by omega) (by omega)
    simp only [cutA_zero, List.drop_zero, Nat.sub_zero, List.take_take] at this
    rwa [Nat.min_eq_left (by omega)] at this
  have hcv : (convert 30 9 (.slice Ao k co)).run Try.prog w2 = .ok (.string ⟨(r.held.take k).toArray⟩) w2 := Rd.string hpre Try.underlying30 Try.underlying5 Try.underlying9
  have hm2p : Mod (fun k => k = p) w w2 := (H1.out.2.1.mono fun _ _ h => h.elim).trans' hm2 fun _ _ h => h
  have H2 := Lib.hid (And.intro hin (And.intro hm2p (fun k hk => (show w.heap.size < k from by have := hA' k hk; have := H1.out.1.lt; omega))))
  clear hin hm2 hA' hAo hb2 hpre ho hm2p
  go_wp2_with fail
  refine bodyPost_ret (v := .tuple #[.agg #[.int .i64 1, .string ⟨(r.held.take k).toArray⟩, .slice none 0 0], .bool true]) (by simp [results, Try.results33, go_sem, x0, x1, x2, hz]) rfl (RNextPost.told (A' := A') (cap' := cap') (bd := []) H2.out.1 hlt H2.out.2.1 H2.out.2.2 ?_ (Own.nil _ _ _) (fun k hk => by simp at hk) HE.out)
  exact Mod.set3 _ _ _ _ _

set_option maxRecDepth 100000 in
set_option maxHeartbeats 1000000 in
theorem RNext_toolong (w : World) (p : Nat) (A : Option Addr) (cap : Nat) (r : RS) (h : RIn w p A cap r) (hs : r.mode = 0) (hf : find (r.held.take 224) = none) (hl : 224 ≤ r.held.length) (hsz : r.held.length ≤ 140737488355328) :
    Calls Try.prog 33 #[.pointer (some ⟨p, 0, none⟩)] w (Gives (RNextPost w p A r)) := by
  obtain ⟨c0, c1, c2, c3, c4, c5⟩ := h.cells
  have hlt := h.blk.lt
  have f1 := h.frozen 1
  have f4 := h.frozen 4
  have f5 := h.frozen 5
  rw [hs] at c1
  have he : endAt r.held 224 = -1 := by unfold endAt; rw [hf]
  have HE : Hid (rnext r = rnext1 (rlong r)) := by unfold rnext; rw [if_pos hs, hf]; simp only []; rw [if_neg (by omega)]; exact rfl
  have H := Lib.hid (And.intro h (And.intro hs he))
  have hd : decide (r.held.length < 224) = false := by simp; omega
  clear h hs hf he c0 c3
  go_enter Try.func33, Try.ntmps33
  go_wp2_with fail
  with_reducible refine (end_calls _ A r.held.length cap r.held (H.out.1.own.rd.mod ((Mod.refl (fun _ => False) w).alloc _) fun _ _ => id)).mono ?_
  rintro e w' ⟨rfl, rfl⟩
  rw [H.out.2.2]
  go_wp2_with fail
  have hput := ((H.out.1.put 1 (.int .i64 1) { r with mode := 1 } (by simp [RCells]) rfl ⟨.inr (.inl rfl), H.out.1.ok.n⟩).put 4 (.bool false) { r with mode := 1, cr := false } (by simp [RCells]) rfl ⟨.inr (.inl rfl), H.out.1.ok.n⟩).put 5 (.bool false) { r with mode := 1, cr := false, ended := false } (by simp [RCells]) rfl ⟨.inr (.inl rfl), H.out.1.ok.n⟩
  have hmp := (((Mod.refl (fun k => k = p) w).setCell (p := ⟨p, 1, none⟩) (fun _ => rfl) (.int .i64 1)).setCell (p := ⟨p, 4, none⟩) (fun _ => rfl) (.bool false)).setCell (p := ⟨p, 5, none⟩) (fun _ => rfl) (.bool false)
  have hsz1 : (((w.setCell ⟨p, 1, none⟩ (.int .i64 1)).setCell ⟨p, 4, none⟩ (.bool false)).setCell ⟨p, 5, none⟩ (.bool false)).heap.size = w.heap.size := by rw [World.size_setCell, World.size_setCell, World.size_setCell]
  generalize (((w.setCell ⟨p, 1, none⟩ (.int .i64 1)).setCell ⟨p, 4, none⟩ (.bool false)).setCell ⟨p, 5, none⟩ (.bool false)) = wa at hput hmp hsz1 ⊢
  have hb1 := Blk.new wa zi 54
  rw [hsz1] at hb1
  have hm1 := (Mod.refl (fun _ => False) wa).alloc (.cells zi.toArray 54)
  have hi1 := hput.mod hm1 fun _ _ h => h
  refine at_world fun W hW => ?_
  have hWe : W = wa.alloc (.cells zi.toArray 54) := hW
  rw [← hWe] at hb1 hm1 hi1
  have hmw : Mod (fun k => k = p) w W := hmp.trans' hm1 fun _ _ h => h.elim
  clear hWe hW c1 c2 c4 c5 f1 f4 f5 hput hmp hm1
  have H1 := Lib.hid (And.intro hb1 (And.intro hmw hi1))
  clear hb1 hmw hi1
  with_reducible refine (again_calls W p A cap { r with mode := 1, cr := false, ended := false } H1.out.2.2 hsz).mono ?_
  rintro e w2 ⟨v, rfl, rfl, A', cap', hin, hm2, hA'⟩
  have hlm : (rlong r).mode = 1 := (rfeed_long (r := { r with mode := 1, cr := false, ended := false, held := [] }) rfl rfl r.held).2.2.2.1
  change RIn w2 p A' cap' (rlong r) at hin
  generalize rlong r = r2 at hin hlm HE
  have hfa := H.out.1.lt
  have hb2 := H1.out.1.mod hm2 (fun hf => by have := hfa _ hf; omega)
  have x0 := hb2.cell 0
  have x1 := hb2.cell 1
  have x2 := hb2.cell 2
  have y0 := hb2.frozen 0 (by simp [zi])
  have y1 := hb2.frozen 1 (by simp [zi])
  have y2 := hb2.frozen 2 (by simp [zi])
  have hz := hb2.lt
  simp only [zi, List.getElem?_cons_zero, List.getElem?_cons_succ] at x0 x1 x2
  obtain ⟨_, z1, _, _, _, z5⟩ := hin.cells
  have g1 := hin.frozen 1
  rw [hlm] at z1
  have hm3 : Mod (foot p A) w w2 := (H1.out.2.1.mono fun i _ e => .inl e).trans' hm2 fun _ _ h => h
  have hA3 : ∀ k, InB A' k → InB A k ∨ w.heap.size < k := fun k hk => by
    rcases hA' k hk with h | h
    · exact .inl h
    · have := H1.out.1.lt; exact .inr (by omega)
  have hB2 : ¬ foot p A' w.heap.size := fun hf => by
    rcases hf with hf | hf
    · omega
    · rcases hA3 _ hf with h | h
      · have := hfa _ (.inr h); omega
      · omega
  have H2 := Lib.hid (And.intro hin (And.intro hm3 (And.intro hA3 hB2)))
  have hlm2 := Lib.hid hlm
  have hpne : p ≠ w.heap.size := by omega
  clear hin hm2 hm3 hA3 hA' hB2 hb2 hfa hlm
  cases he : r2.ended
  · rw [he] at z5
    have HE2 : Hid (rnext r = (r2, none)) := by rw [HE.out]; unfold rnext1; rw [if_pos hlm2.out, if_neg (by simp [he])]; exact rfl
    clear he HE
    go_wp2_with fail
    refine bodyPost_ret (v := .tuple #[.agg #[.int .i64 0, .string ⟨#[]⟩, .slice none 0 0], .bool false]) (by simp [results, Try.results33, go_sem, x0, x1, x2, hz]) rfl (Gives.mk ?_)
    unfold RNextPost
    rw [HE2.out]
    refine ⟨A', cap', none, 0, 0, rfl, H2.out.1.mod (Mod.set3 _ w.heap.size _ _ _) (fun k hk e => H2.out.2.2.2 (e ▸ hk)), Own.nil _ _ _, fun k hk => by simp at hk, H2.out.2.1.trans' (Mod.set3 _ w.heap.size _ _ _) (fun i hi e => by omega), fun k hk => (H2.out.2.2.1 k hk).imp_right Nat.le_of_lt⟩
  · rw [he] at z5
    have HE2 : Hid (rnext r = ({ r2 with mode := 0 }, some (item 2 [] []))) := by rw [HE.out]; unfold rnext1; rw [if_pos hlm2.out, if_pos he]; exact rfl
    clear he HE
    go_wp2_with fail
    refine bodyPost_ret (v := .tuple #[.agg #[.int .i64 2, .string ⟨#[]⟩, .slice none 0 0], .bool true]) (by simp [results, Try.results33, go_sem, x0, x1, x2, hz]) rfl (Gives.mk ?_)
    unfold RNextPost
    rw [HE2.out]
    refine ⟨A', cap', none, 0, 0, rfl, (H2.out.1.put 1 (.int .i64 0) { r2 with mode := 0 } (by simp [RCells]) rfl ⟨.inl rfl, H2.out.1.ok.n⟩).mod (Mod.set3 _ w.heap.size _ _ _) (fun k hk e => H2.out.2.2.2 (e ▸ hk)), Own.nil _ _ _, fun k hk => by simp at hk, (H2.out.2.1.setCell (p := ⟨p, 1, none⟩) (fun _ => .inl rfl) _).trans' (Mod.set3 _ w.heap.size _ _ _) (fun i hi e => by omega), fun k hk => (H2.out.2.2.1 k hk).imp_right Nat.le_of_lt⟩

set_option maxRecDepth 100000 in
set_option maxHeartbeats 2000000 in
theorem RNext_body (w : World) (p : Nat) (A : Option Addr) (cap : Nat) (r : RS) (h : RIn w p A cap r) (hs : r.mode = 2) (hsz : r.held.length ≤ 140737488355328) :
    Calls Try.prog 33 #[.pointer (some ⟨p, 0, none⟩)] w (Gives (RNextPost w p A r)) := by
  obtain ⟨c0, c1, c2, c3, c4, c5⟩ := h.cells
  have hlt := h.blk.lt
  have hn := h.ok.n
  obtain ⟨q, hq⟩ := Int.eq_ofNat_of_zero_le hn.1
  rw [hs] at c1
  rw [hq] at c3 hn
  have H := Lib.hid (And.intro h (And.intro hs hq))
  clear h hs hq c0 c4 c5
  by_cases hfew : r.held.length < q + 2
  · have HE : Hid (rnext r = (r, none)) := by unfold rnext rnext1; rw [if_neg (by rw [H.out.2.1]; decide), if_neg (by rw [H.out.2.1]; decide), if_pos H.out.2.1, if_neg (by rw [H.out.2.2]; omega)]; exact rfl
    have hd : decide ((q : Int) + 2 ≤ (r.held.length : Int)) = false := by simp; omega
    go_enter Try.func33, Try.ntmps33
    go_wp2_with fail
    go_quiet (fail)
    go_wp2_with fail
    refine bodyPost_ret (v := .tuple #[.agg #[.int .i64 0, .string ⟨#[]⟩, .slice none 0 0], .bool false]) (by simp [results, Try.results33, go_sem]) rfl (RNextPost.none_ H.out.1 ?_ HE.out)
    repeat (first | exact Mod.refl _ _ | apply Mod.alloc | apply Mod.drew | apply Mod.drewN | refine Mod.setCell ?_ (fun h => absurd h (Nat.lt_irrefl _)) _)
  · have hd : decide ((q : Int) + 2 ≤ (r.held.length : Int)) = true := by simp; omega
    go_enter Try.func33, Try.ntmps33
    go_wp2_with fail
    go_quiet (fail)
    go_wp2_with fail
    have hb1 := (Blk.new w zi 54).drewN nq
    have hm1 := ((Mod.refl (fun _ => False) w).alloc (.cells zi.toArray 54)).drewN nq
    have hi1 := H.out.1.mod hm1 fun _ _ h => h
    refine at_world fun W hW => ?_
    have hWe : W = (w.alloc (.cells zi.toArray 54)).drewN nq := hW
    rw [← hWe] at hb1 hm1 hi1
    clear hWe hW c1 c2 c3
    have H1 := Lib.hid (And.intro hb1 (And.intro hm1 hi1))
    clear hb1 hm1 hi1
    have hT := takes_calls W p A cap r H1.out.2.2 (q + 2) (by omega) hsz
    rw [show (((q + 2 : Nat)) : Int) = (q : Int) + 2 from by omega] at hT
    with_reducible refine hT.mono ?_
    clear hT
    rintro e w2 ⟨v, rfl, Ao, co, A', cap', rfl, ho, hin, hm2, hA', hAo⟩
    have hb2 := H1.out.1.mod hm2 (by omega)
    have x0 := hb2.cell 0
    have x1 := hb2.cell 1
    have x2 := hb2.cell 2
    have y0 := hb2.frozen 0 (by simp [zi])
    have y1 := hb2.frozen 1 (by simp [zi])
    have y2 := hb2.frozen 2 (by simp [zi])
    have hz := hb2.lt
    simp only [zi, List.getElem?_cons_zero, List.getElem?_cons_succ] at x0 x1 x2
    have hwW := H1.out.2.1.size
    have hW1 := H1.out.1.lt
    have htl : (r.held.take (q + 2)).length = q + 2 := by rw [List.length_take]; omega
    obtain ⟨g, off, hAe, hg, hc⟩ := ho.rd.byte (by omega)
    subst hAe
    have hgn := (hAo g (by simp)).1
    have hco := ho.le
    have hq0 : r.held[q]? = some r.held[q] := List.getElem?_eq_getElem (by omega)
    have hq1 : r.held[q + 1]? = some r.held[q + 1] := List.getElem?_eq_getElem (by omega)
    have hc0 := hc q (by omega)
    have hc1 := hc (q + 1) (by omega)
    simp only [List.getElem_take] at hc0 hc1
    clear hc
    obtain ⟨_, z1, _, z3, _, _⟩ := hin.cells
    have g1 := hin.frozen 1
    simp only [] at z1 z3
    rw [H.out.2.1] at z1
    rw [H.out.2.2] at z3
    have hpne : p ≠ w.heap.size := by omega
    have hpne2 : w.heap.size ≠ p := by omega
    have hgp : g ≠ p := by omega
    have hgp2 : p ≠ g := by omega
    have hpre : OwnB w2 5 (some ⟨g, off, none⟩) q co (r.held.take q) := by
      have := ho.bcut 0 q (by omega) (by omega)
      simp only [cutA_zero, List.drop_zero, Nat.sub_zero, List.take_take] at this
      rwa [Nat.min_eq_left (by omega)] at this
    have hsl := fun W => slice_hi W (some ⟨g, off, none⟩) (q + 2) co q (by omega)
    have hm2p : Mod (fun k => k = p) w w2 := (H1.out.2.1.mono fun _ _ h => h.elim).trans' hm2 fun _ _ h => h
    have H3 := Lib.hid (And.intro (hin.put 1 (.int .i64 0) { r with mode := 0, held := r.held.drop (q + 2) } (by simp [RCells]) rfl ⟨.inl rfl, H.out.1.ok.n⟩) (hm2p.setCell (p := ⟨p, 1, none⟩) (fun _ => rfl) (.int .i64 0)))
    have H2 := Lib.hid (And.intro hin (And.intro hm2p (And.intro (fun k hk => (show w.heap.size < k from by have := hA' k hk; omega)) (And.intro (hpre.mod (Mod.set w2 p 1 (.int .i64 0)) fun k hk e => hgp (by simp at hk; omega)) (fun k hk => (show w.heap.size < k ∧ ¬ InB A' k from ⟨by have := (hAo k hk).1; omega, (hAo k hk).2⟩))))))
    have HEE : ∀ it, it = (if r.held[q]? = some 13 ∧ r.held[q + 1]? = some 10 then item 3 [] (r.held.take q) else item 5 [] []) → Hid (rnext r = ({ r with mode := 0, held := r.held.drop (q + 2) }, some it)) := fun it hit => by
      subst hit
      refine Lib.hid ?_
      unfold rnext rnext1
      rw [if_neg (by rw [H.out.2.1]; decide), if_neg (by rw [H.out.2.1]; decide), if_pos H.out.2.1, if_pos (by rw [H.out.2.2]; omega), H.out.2.2, Int.toNat_natCast]
    clear hin hm2 hA' hAo hb2 ho hm2p hpre
    rw [hq0, hq1] at HEE
    generalize r.held[q] = b0 at hc0 HEE hq0
    generalize r.held[q + 1] = b1 at hc1 HEE hq1
    clear hq0 hq1
    by_cases e0 : b0 = 13
    · by_cases e1 : b1 = 10
      · have HE := HEE (item 3 [] (r.held.take q)) (by rw [if_pos ⟨by rw [e0], by rw [e1]⟩])
        subst e0 e1
        clear HEE
        go_wp2_with fail
        refine bodyPost_ret (v := .tuple #[.agg #[.int .i64 3, .string ⟨#[]⟩, .slice (some ⟨g, off, none⟩) q co], .bool true]) (by simp [results, Try.results33, go_sem, x0, x1, x2, hz, hpne, hpne2]) rfl (RNextPost.told (A' := A') (cap' := cap') (kv := 3) (tx := []) H3.out.1 hlt H3.out.2 H2.out.2.2.1 (Mod.set3 _ _ _ _ _) H2.out.2.2.2.1 H2.out.2.2.2.2 ?_)
        rw [HE.out]
        simp [item]
      · have HE := HEE (item 5 [] []) (by rw [if_neg (by simp [e1])])
        have hb : ((b1.toNat : Int) == 10) = false := by rw [show ((b1.toNat : Int) == 10) = (b1 == 10) from u8_beq b1 10]; simpa using e1
        subst e0
        clear HEE e1
        go_wp2_with fail
        refine bodyPost_ret (v := .tuple #[.agg #[.int .i64 5, .string ⟨#[]⟩, .slice none 0 0], .bool true]) (by simp [results, Try.results33, go_sem, x0, x1, x2, hz, hpne, hpne2]) rfl (RNextPost.told (A' := A') (cap' := cap') (kv := 5) (tx := []) (bd := []) H3.out.1 hlt H3.out.2 H2.out.2.2.1 (Mod.set3 _ _ _ _ _) (Own.nil _ _ _) (fun k hk => by simp at hk) HE.out)
    · have HE := HEE (item 5 [] []) (by rw [if_neg (by simp [e0])])
      have hb : ((b0.toNat : Int) == 13) = false := by rw [show ((b0.toNat : Int) == 13) = (b0 == 13) from u8_beq b0 13]; simpa using e0
      clear HEE e0
      go_wp2_with fail
      refine bodyPost_ret (v := .tuple #[.agg #[.int .i64 5, .string ⟨#[]⟩, .slice none 0 0], .bool true]) (by simp [results, Try.results33, go_sem, x0, x1, x2, hz, hpne, hpne2]) rfl (RNextPost.told (A' := A') (cap' := cap') (kv := 5) (tx := []) (bd := []) H3.out.1 hlt H3.out.2 H2.out.2.2.1 (Mod.set3 _ _ _ _ _) (Own.nil _ _ _) (fun k hk => by simp at hk) HE.out)

theorem RNext_calls (w : World) (p : Nat) (A : Option Addr) (cap : Nat) (r : RS) (h : RIn w p A cap r) (hsz : r.held.length ≤ 140737488355328) :
    Calls Try.prog 33 #[.pointer (some ⟨p, 0, none⟩)] w (Gives (RNextPost w p A r)) := by
  rcases h.ok.mode with h0 | h1 | h2 | h3
  · cases hf : find (r.held.take 224) with
    | some k => exact RNext_line w p A cap r h h0 k hf hsz
    | none =>
      by_cases hl : r.held.length < 224
      · exact RNext_short w p A cap r h h0 hf hl
      · exact RNext_toolong w p A cap r h h0 hf (by omega) hsz
  · exact RNext_long w p A cap r h h1
  · exact RNext_body w p A cap r h h2 hsz
  · exact RNext_big w p A cap r h h3
end Go.Proofs.Ytoeaaomgilgncaa
