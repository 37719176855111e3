/-
  IntakeScript: the book of bodies that were handed out: keep.
-/
import Derived.Test.YtoeaaomgilgncaaRefWalks4
namespace Go.Proofs.Ytoeaaomgilgncaa
open Go.RowKit Go.Mem Go.Intake
set_option linter.unusedVariables false

theorem Try.elt27 : Elt Try.prog 27 30 1 24 := elt_of (.slice none 0 0) Try.underlying27 rfl (by kernel_rfl) rfl (by decide)
theorem Try.elt25 : Elt Try.prog 25 38 1 8 := elt_of (.pointer none) Try.underlying25 rfl (by kernel_rfl) rfl (by decide)
theorem Try.elt26 : Elt Try.prog 26 40 1 8 := elt_of (.pointer none) Try.underlying26 rfl (by kernel_rfl) rfl (by decide)

/-- Bytes that were handed out, or that must be read. -/
structure OB where
  addr : Option Addr
  n : Nat
  cap : Nat
  bytes : List UInt8
def OB.val (o : OB) : Value := .slice o.addr o.n o.cap
/-- Bytes that may be written. -/
def aO (o : OB) : Ast := aB o.addr o.n o.cap o.bytes
/-- Bytes that are read alone; some may share memory. -/
def aOld (l : List OB) : Ast where
  holds w S := (∀ k, S k → k < w.heap.size) ∧ ∀ o ∈ l, RdB w o.addr o.n o.cap o.bytes ∧ ∀ k, InB o.addr k → S k
  lt h k hk := h.1 k hk
  mod h hm hn := ⟨fun k hk => Nat.lt_of_lt_of_le (h.1 k hk) hm.size, fun o ho => ⟨(h.2 o ho).1.mod hm fun k hk => hn k ((h.2 o ho).2 k hk), (h.2 o ho).2⟩⟩

/-- The desk's cells. -/
def deskCells (va vb : Value) (Ao : Option Addr) (no co : Nat) (Aw : Option Addr) (nw cw : Nat) (fr : Int) (vl : Value) : List Value := [va, vb, .slice Ao no co, .slice Aw nw cw, .int .i64 fr, vl]
/-- What keep leaves. -/
def KeepPost (w0 : World) (d : Nat) (va vb vl : Value) (fr : Int) (no nw : Nat) (xs ys : List Value) (o : OB) (R : List Ast) (v : Value) (w' : World) : Prop :=
  v = .tuple #[] ∧ ∃ Ao' co' Aw' cw' o2, o2.bytes = o.bytes ∧
    Holds w0 w' (aBlk d (deskCells va vb Ao' (no + 1) co' Aw' (nw + 1) cw' fr vl) 32 :: aOwn 30 1 Ao' (no + 1) co' (xs ++ [o.val]) :: aOwn 30 1 Aw' (nw + 1) cw' (ys ++ [o2.val]) :: aO o2 :: aO o :: R)

set_option maxRecDepth 100000 in
set_option maxHeartbeats 1000000 in
theorem keep_calls (w0 w : World) (d : Nat) (va vb vl : Value) (fr : Int) (Ao : Option Addr) (no co : Nat) (Aw : Option Addr) (nw cw : Nat) (xs ys : List Value) (o : OB) (R : List Ast)
    (h : Holds w0 w (aBlk d (deskCells va vb Ao no co Aw nw cw fr vl) 32 :: aOwn 30 1 Ao no co xs :: aOwn 30 1 Aw nw cw ys :: aO o :: R)) (hb : no ≤ 1000000000000 ∧ nw ≤ 1000000000000 ∧ o.bytes.length ≤ 1000000000000) :
    Calls Try.prog 34 #[.pointer (some ⟨d, 2, none⟩), o.val] w (Gives (KeepPost w0 d va vb vl fr no nw xs ys o R)) := by
  have hbl := h.blk.1
  have c2 := hbl.cell 2
  have f2 := hbl.frozen 2 (by simp [deskCells])
  have hbn := h.get4.own.1.blen
  simp only [deskCells, List.getElem?_cons_zero, List.getElem?_cons_succ] at c2
  obtain ⟨hb1, hb2, hb3⟩ := hb
  have H := Lib.hid h
  have HN := Lib.hid hbn
  clear h hbl hbn
  go_enter Try.func34, Try.ntmps34
  unfold OB.val
  go_wp2_with (at_builtin; refine wpList_append _ rfl (.tmp 8) (.tmp 10) 27 27 rfl Try.elt27 Ao no co xs rfl (H.out.swap.own.1.alloc _) (.slice (some ⟨w.heap.size, 0, none⟩) 1 1) 1 [.slice o.addr o.n o.cap] rfl (Rd.src (Own.row _ 30 1 1 [.slice o.addr o.n o.cap] rfl (by decide)).rd Try.underlying27 (by simp [Value.oneCell'])) ?h63 ?hby ?_)
  case h63 => unfold maxLen; omega
  case hby => omega
  intro A1 c1 w1 ho1 hm1 hin1 _
  have h1 := ((H.out.alloc (.cells #[.slice o.addr o.n o.cap] 30)).swap.append ho1 hm1 (fun k hk => by simpa using hin1 k hk)).swap
  have j2 := h1.blk.1.cell 2
  have jf := h1.blk.1.frozen 2 (by simp [deskCells])
  simp only [deskCells, List.getElem?_cons_zero, List.getElem?_cons_succ] at j2
  have H1 := Lib.hid (h1.store 2 (.slice A1 (no + 1) c1))
  clear ho1 hm1 hin1 h1 c2 f2
  go_wp2_with fail
  refine wp_at fun W hW => ?_
  have HW : Holds w0 W (aBlk d (deskCells va vb A1 (no + 1) c1 Aw nw cw fr vl) 32 :: aOwn 30 1 A1 (no + 1) c1 (xs ++ [.slice o.addr o.n o.cap]) :: aOwn 30 1 Aw nw cw ys :: aO o :: R) := by
    rw [hW]
    exact H1.out
  have HW := Lib.hid HW
  clear hW H1 j2 jf
  have c3 := HW.out.blk.1.cell 3
  simp only [deskCells, List.getElem?_cons_zero, List.getElem?_cons_succ] at c3
  have HQ := Lib.hid (fun W' (hm : Mod (fun _ => False) W W') => HW.out.quiet hm)
  have tok : True := trivial
  go_region_law (first
    | (refine step_append rfl (.const (.slice none 0 0)) (.tmp 19) 30 30 rfl Try.elt30 none 0 0 (bc []) (by simp [Act.eval, Act.put]) (Own.nil _ _ _) (.slice o.addr o.n o.cap) o.n (bc o.bytes) (by simp [Act.eval, Act.put]) (Rd.src ((HQ.out _ (by repeat (first | exact Mod.refl _ _ | apply Mod.alloc | apply Mod.drew | apply Mod.drewN))).get4.own.1.rd) Try.underlying30 (bc_one _)) (by unfold maxLen; rw [← HN.out]; omega) (by rw [← HN.out]; omega) ?_; intro A5 c5 w5 ho5 hm5 hin5; have H5 := Lib.hid (Holds.cons (P := aOwn 5 1 A5 o.n c5 (bc o.bytes)) (HQ.out _ (by repeat (first | exact Mod.refl _ _ | apply Mod.alloc | apply Mod.drew | apply Mod.drewN))) (hm5.mono fun i _ hi => by simp at hi) ⟨by simpa using ho5, fun _ => Iff.rfl⟩ (fun k hk => by simpa using hin5 k hk)); have c35 := H5.out.tail.blk.1.cell 3; simp only [deskCells, List.getElem?_cons_zero, List.getElem?_cons_succ] at c35; have hlt5 := H5.out.tail.blk.1.lt; clear ho5 hm5 hin5)
    | (refine step_append rfl (.tmp 18) (.tmp 21) 27 27 rfl Try.elt27 Aw nw cw ys (by simp [Act.eval, Act.put]) (H5.out.tail.get3.own.1.mod (S := fun _ => False) (by repeat (first | exact Mod.refl _ _ | apply Mod.alloc | apply Mod.drew | apply Mod.drewN)) fun _ _ => id) (.slice (some ⟨w5.heap.size, 0, none⟩) 1 1) 1 [.slice A5 o.n c5] (by simp [Act.eval, Act.put]) (by first | exact Rd.src (Own.row _ 30 1 1 [.slice A5 o.n c5] rfl (by decide)).rd Try.underlying27 (by simp [Value.oneCell']) | exact Rd.src ((Own.row w5 30 1 1 [.slice A5 o.n c5] rfl (by decide)).rd.mod ((Mod.refl (fun _ => False) _).drew) fun _ _ => id) Try.underlying27 (by simp [Value.oneCell'])) (by unfold maxLen; omega) (by omega) ?_; intro A7 c7 w7 ho7 hm7 hin7; have H7 := Lib.hid (((H5.out.quiet (by repeat (first | exact Mod.refl _ _ | apply Mod.alloc | apply Mod.drew | apply Mod.drewN))).get4.append ho7 hm7 hin7).get3); have c37 := H7.out.blk.1.cell 3; have f37 := H7.out.blk.1.frozen 3 (by simp [deskCells]); simp only [deskCells, List.getElem?_cons_zero, List.getElem?_cons_succ] at c37; clear ho7 hm7 hin7 H5 c35))
  all_goals
    have H8 := Lib.hid ((H7.out.store 3 (.slice A7 (nw + 1) c7)).get4.swap)
    clear H7 c37 f37 HQ HW c3
    go_wp2_with fail
    go_end0
    refine Gives.mk ⟨rfl, A1, c1, A7, c7, ⟨A5, o.n, c5, o.bytes⟩, rfl, ?_⟩
    exact H8.out
end Go.Proofs.Ytoeaaomgilgncaa
