/-
  IntakeScript: the desk: clone, made.
-/
import Derived.Test.YtoeaaomgilgncaaDesk7
namespace Go.Proofs.Ytoeaaomgilgncaa
open Go.RowKit Go.Mem Go.Intake
set_option linter.unusedVariables false

section
variable {w0 w : World} {d : Nat} {a : DA} {L : List PR}
def deskBlk (d : Nat) (a : DA) (na nb : Nat) (Aa : Option Addr) (ca : Nat) (Ab : Option Addr) (cb : Nat) : Ast := aBlk d (deskCells (.slice Aa na ca) (.slice Ab nb cb) a.Ao a.no a.co a.Aw a.no a.cw a.oo.length (.slice a.Al a.nl a.cl)) 32
/-- What a desk has besides its block and its two rows. -/
def deskRest (d : Nat) (a : DA) : List Ast :=
  [aOwn 30 1 a.Ao a.no a.co ((a.oo ++ a.fo).map OB.val), aOwn 30 1 a.Aw a.no a.cw ((a.ow ++ a.fw).map OB.val), aOld (a.oo ++ a.ow)] ++ (a.fo.map aO ++ (a.fw.map aO ++ [aB a.Al a.nl a.cl a.lent]))
theorem desk_perm (d : Nat) (a : DA) (L : List PR) : (deskL d a L).Perm (deskBlk d a L.length L.length a.Aa a.ca a.Ab a.cb :: aOwn 38 1 a.Aa L.length a.ca (L.map PR.va) :: aOwn 40 1 a.Ab L.length a.cb (L.map PR.vb) :: (deskRest d a ++ (L.map aIp ++ (L.map aRp ++ [])))) := by
  unfold deskL deskB bookL deskBlk deskRest deskR
  simp only [List.cons_append, List.nil_append, List.append_assoc]
  refine List.Perm.cons _ ?_
  -- rows forward
  have h1 := List.perm_append_comm_assoc ([aOwn 30 1 a.Ao a.no a.co ((a.oo ++ a.fo).map OB.val), aOwn 30 1 a.Aw a.no a.cw ((a.ow ++ a.fw).map OB.val), aOld (a.oo ++ a.ow)] ++ (a.fo.map aO ++ a.fw.map aO)) [aOwn 38 1 a.Aa L.length a.ca (L.map PR.va), aOwn 40 1 a.Ab L.length a.cb (L.map PR.vb)] (aB a.Al a.nl a.cl a.lent :: (L.map aIp ++ (L.map aRp ++ [])))
  simpa only [List.cons_append, List.nil_append, List.append_assoc] using h1
theorem desk_push {x : PR} {Aa' Ab' : Option Addr} {ca' cb' : Nat}
    (h : Holds w0 w (deskBlk d a (L.length + 1) (L.length + 1) Aa' ca' Ab' cb' :: aOwn 38 1 Aa' (L.length + 1) ca' (L.map PR.va ++ [x.va]) :: aOwn 40 1 Ab' (L.length + 1) cb' (L.map PR.vb ++ [x.vb]) :: (aI x.p x.s :: aR x.q x.r :: (deskRest d a ++ (L.map aIp ++ (L.map aRp ++ [])))))) :
    Holds w0 w (deskL d { a with Aa := Aa', ca := ca', Ab := Ab', cb := cb' } (L ++ [x])) := by
  refine (h.perm ?_).perm (desk_perm d { a with Aa := Aa', ca := ca', Ab := Ab', cb := cb' } (L ++ [x])).symm
  have e : (L ++ [x]).length = L.length + 1 := by simp
  rw [e, List.map_append, List.map_append, List.map_append, List.map_append]
  refine List.Perm.cons _ (List.Perm.cons _ (List.Perm.cons _ ?_))
  show (aI x.p x.s :: aR x.q x.r :: (deskRest d a ++ (L.map aIp ++ (L.map aRp ++ [])))).Perm (deskRest d a ++ (L.map aIp ++ [aI x.p x.s] ++ (L.map aRp ++ [aR x.q x.r] ++ [])))
  simp only [List.append_nil, List.append_assoc, List.cons_append, List.nil_append]
  refine List.Perm.symm ?_
  have h1 := List.perm_middle (l₁ := deskRest d a ++ L.map aIp) (l₂ := L.map aRp ++ [aR x.q x.r]) (a := aI x.p x.s)
  have h2 := List.perm_middle (l₁ := deskRest d a ++ (L.map aIp ++ L.map aRp)) (l₂ := []) (a := aR x.q x.r)
  simp only [List.append_assoc, List.append_nil] at h1 h2
  exact h1.trans (List.Perm.cons _ h2)
theorem desk_put {x : PR} (t : Nat) (ht : t < L.length)
    (h : Holds w0 w (deskBlk d a L.length L.length a.Aa a.ca a.Ab a.cb :: aOwn 38 1 a.Aa L.length a.ca ((L.map PR.va).set t x.va) :: aOwn 40 1 a.Ab L.length a.cb ((L.map PR.vb).set t x.vb) :: (aI x.p x.s :: aR x.q x.r :: (deskRest d a ++ (L.map aIp ++ (L.map aRp ++ [])))))) :
    Holds w0 w (deskL d a (L.set t x)) := by
  refine Holds.perm ?_ (desk_perm d a (L.set t x)).symm
  rw [List.length_set, ← List.map_set, ← List.map_set] at *
  have h1 : Holds w0 w ([deskBlk d a L.length L.length a.Aa a.ca a.Ab a.cb, aOwn 38 1 a.Aa L.length a.ca ((L.set t x).map PR.va), aOwn 40 1 a.Ab L.length a.cb ((L.set t x).map PR.vb), aI x.p x.s, aR x.q x.r] ++ deskRest d a ++ (L.map aIp ++ (L.map aRp ++ []))) := by
    simpa only [List.append_assoc, List.cons_append, List.nil_append] using h
  obtain ⟨R', h2, h3⟩ := Holds.zoom2 h1 t ht ht
  have h4 : Holds w0 w (aIp L[t] :: aRp L[t] :: ([deskBlk d a L.length L.length a.Aa a.ca a.Ab a.cb, aOwn 38 1 a.Aa L.length a.ca ((L.set t x).map PR.va), aOwn 40 1 a.Ab L.length a.cb ((L.set t x).map PR.vb), aI x.p x.s, aR x.q x.r] ++ deskRest d a ++ R')) := h2.perm (List.perm_middle.trans (List.Perm.cons _ List.perm_middle))
  have h5 := h4.tail.tail
  have h6 := h3 (w' := w) (l0' := [deskBlk d a L.length L.length a.Aa a.ca a.Ab a.cb, aOwn 38 1 a.Aa L.length a.ca ((L.set t x).map PR.va), aOwn 40 1 a.Ab L.length a.cb ((L.set t x).map PR.vb)] ++ deskRest d a) (x := x) (y := x) (h5.perm (by
    simp only [List.append_assoc, List.cons_append, List.nil_append]
    refine List.Perm.cons _ (List.Perm.cons _ (List.Perm.cons _ ?_))
    refine List.Perm.symm (List.perm_middle.trans (List.Perm.cons _ List.perm_middle))))
  simpa only [List.append_assoc, List.cons_append, List.nil_append] using h6
end

set_option maxRecDepth 100000 in
theorem made_no (w : World) (d : Nat) (m : Int) (h : m < 1 ∨ 65535 < m) : Calls Try.prog 9 #[.pointer (some ⟨d, 0, none⟩), .int .i64 m] w fun e w' => e = .returned (.bool true) ∧ w = w' := by
  go_enter Try.func9, Try.ntmps9
  go_wp2_with fail
  with_reducible refine (New_no w m h).mono ?_
  rintro e w' ⟨rfl, rfl⟩
  go_wp2_with fail
  with_reducible refine (RNew_no w m h).mono ?_
  rintro e w' ⟨rfl, rfl⟩
  go_wp2_with fail
  go_ret
  exact ⟨rfl, rfl⟩

def PushAt (w0 : World) (d : Nat) (L : List PR) (s : St) (r : RS) (T K : Nat) (v : Value) (w' : World) : Prop :=
  v = .bool true ∧ ∃ p q, Desk w0 w' d (L ++ [⟨p, s, q, r⟩]) T K
theorem rnew_in (w : World) (m : Int) : RIn (w.alloc (.cells (RCells (rnew m) none 0).toArray 78)) w.heap.size none 0 (rnew m) := ⟨Blk.new w _ 78, Own.nil _ _ _, (Eqv.new m).ok⟩
set_option maxRecDepth 100000 in
set_option maxHeartbeats 2000000 in
theorem made_ok (w0 w : World) (d : Nat) (L : List PR) (T K : Nat) (h : Desk w0 w d L T K) (m : Int) (h1 : 1 ≤ m) (h2 : m ≤ 65535) (hL : L.length ≤ 1) : Calls Try.prog 9 #[.pointer (some ⟨d, 0, none⟩), .int .i64 m] w (Gives (PushAt w0 d L (new m) (rnew m) T K)) := by
  obtain ⟨a, hok, hh⟩ := h
  have hd := (desk_blk hh)
  have hdl : d < w.heap.size := by obtain ⟨_, hd⟩ := hd; exact hd.blk.1.lt
  have HH := Lib.hid (And.intro hok hh)
  clear hok hh hd
  go_enter Try.func9, Try.ntmps9
  go_wp2_with fail
  with_reducible refine (New_ok w m h1 h2).mono ?_
  rintro e w1 ⟨rfl, rfl⟩
  have hA := Holds.cons (P := aI w.heap.size (new m)) (S := fun k => foot w.heap.size none k) HH.out.2 ((Mod.refl _ w).alloc (.cells (InCells (new m) none 0).toArray 76)) ⟨none, 0, new_in w m ⟨h1, h2⟩, fun _ => Iff.rfl⟩ (fun k hk => by
    rcases hk with hk | hk
    · exact Nat.le_of_eq hk.symm
    · simp at hk)
  generalize hw1 : w.alloc (.cells (InCells (new m) none 0).toArray 76) = w1 at hA ⊢
  generalize w.heap.size = p at hA hdl ⊢
  clear hw1
  have HA := Lib.hid hA
  clear hA
  go_wp2_with fail
  with_reducible refine (RNew_ok w1 m h1 h2).mono ?_
  rintro e w2 ⟨rfl, rfl⟩
  have hB := Holds.cons (P := aR w1.heap.size (rnew m)) (S := fun k => foot w1.heap.size none k) HA.out ((Mod.refl _ w1).alloc (.cells (RCells (rnew m) none 0).toArray 78)) ⟨none, 0, rnew_in w1 m, fun _ => Iff.rfl⟩ (fun k hk => by
    rcases hk with hk | hk
    · exact Nat.le_of_eq hk.symm
    · simp at hk)
  generalize hw2 : w1.alloc (.cells (RCells (rnew m) none 0).toArray 78) = w2 at hB ⊢
  generalize w1.heap.size = q at hB ⊢
  clear hw2
  obtain ⟨XX, hXX⟩ : ∃ XX, XX = [aI p (new m), aR q (rnew m)] ++ (deskRest d a ++ (L.map aIp ++ (L.map aRp ++ []))) := ⟨_, rfl⟩
  have HK : Hid (Holds w0 w2 (deskBlk d a L.length L.length a.Aa a.ca a.Ab a.cb :: aOwn 38 1 a.Aa L.length a.ca (L.map PR.va) :: aOwn 40 1 a.Ab L.length a.cb (L.map PR.vb) :: XX)) := by
    rw [hXX]
    exact Holds.perm hB.swap ((List.Perm.cons _ (List.Perm.cons _ (desk_perm d a L))).trans (List.perm_append_comm_assoc [aI p (new m), aR q (rnew m)] [deskBlk d a L.length L.length a.Aa a.ca a.Ab a.cb, aOwn 38 1 a.Aa L.length a.ca (L.map PR.va), aOwn 40 1 a.Ab L.length a.cb (L.map PR.vb)] _))
  have HXX := Lib.hid hXX
  clear hXX
  clear hB HA
  have hblk := HK.out
  have c0 := hblk.blk.1.cell 0
  have f0 := hblk.blk.1.frozen 0 (by simp [deskCells])
  simp only [deskCells, List.getElem?_cons_zero, List.getElem?_cons_succ] at c0
  clear hblk
  go_upto_region 7 with (at_builtin; refine wpList_append _ rfl (.tmp 35) (.tmp 37) 25 25 rfl Try.elt25 a.Aa L.length a.ca (L.map PR.va) rfl (HK.out.swap.own.1.alloc _) (.slice (some ⟨w2.heap.size, 0, none⟩) 1 1) 1 [.pointer (some ⟨p, 0, none⟩)] rfl (Rd.src (Own.row _ 38 1 1 [.pointer (some ⟨p, 0, none⟩)] rfl (by decide)).rd Try.underlying25 (by simp [Value.oneCell'])) (by unfold maxLen; omega) (by omega) ?_; intro A8 c8 w8 ho8 hm8 hin8 _; have h8 := Lib.hid (((HK.out.alloc (.cells #[.pointer (some ⟨p, 0, none⟩)] 38)).swap.append ho8 hm8 (fun k hk => by simpa using hin8 k hk)).swap); have j0 := h8.out.blk.1.cell 0; have jf := h8.out.blk.1.frozen 0 (by simp [deskCells]); simp only [deskCells, List.getElem?_cons_zero, List.getElem?_cons_succ] at j0; clear ho8 hm8 hin8 c0 f0)
  refine wp_at fun W8 hW8 => ?_
  have HK8 : Holds w0 W8 (deskBlk d a (L.length + 1) L.length A8 c8 a.Ab a.cb :: aOwn 38 1 A8 (L.length + 1) c8 (L.map PR.va ++ [.pointer (some ⟨p, 0, none⟩)]) :: aOwn 40 1 a.Ab L.length a.cb (L.map PR.vb) :: XX) := by
    rw [hW8]
    exact h8.out.store 0 (.slice A8 (L.length + 1) c8)
  clear hW8 h8 j0 jf HK
  have c1 := HK8.blk.1.cell 1
  have f1 := HK8.blk.1.frozen 1 (by simp [deskCells])
  simp only [deskCells, List.getElem?_cons_zero, List.getElem?_cons_succ] at c1
  have HK := Lib.hid HK8.get3
  clear HK8
  go_wp2_with (at_builtin; refine wpList_append _ rfl (.tmp 45) (.tmp 47) 26 26 rfl Try.elt26 a.Ab L.length a.cb (L.map PR.vb) rfl (HK.out.own.1.alloc _) (.slice (some ⟨W8.heap.size, 0, none⟩) 1 1) 1 [.pointer (some ⟨q, 0, none⟩)] rfl (Rd.src (Own.row _ 40 1 1 [.pointer (some ⟨q, 0, none⟩)] rfl (by decide)).rd Try.underlying26 (by simp [Value.oneCell'])) (by unfold maxLen; omega) (by omega) ?_; intro A9 c9 w9 ho9 hm9 hin9 _; have h9 := Lib.hid (((HK.out.alloc (.cells #[.pointer (some ⟨q, 0, none⟩)] 40)).append ho9 hm9 (fun k hk => by simpa using hin9 k hk)).swap); have j1 := h9.out.blk.1.cell 1; have jf1 := h9.out.blk.1.frozen 1 (by simp [deskCells]); simp only [deskCells, List.getElem?_cons_zero, List.getElem?_cons_succ] at j1; clear ho9 hm9 hin9 c1 f1)
  have HG2 := Lib.hid ((h9.out.store 1 (.slice A9 (L.length + 1) c9)).get3.swap)
  clear HK h9 j1 jf1
  go_wp2_with fail
  go_ret

  have HG3 := HG2.out
  rw [HXX.out] at HG3
  refine Gives.mk ⟨rfl, p, q, _, ?_, desk_push (x := ⟨p, new m, q, rnew m⟩) HG3⟩
  exact ⟨HH.out.1.e1, HH.out.1.e2, HH.out.1.fb, HH.out.1.cnt, fun x hx => by
    rcases List.mem_append.1 hx with hx | hx
    · exact HH.out.1.eqv x hx
    · obtain rfl : x = ⟨p, new m, q, rnew m⟩ := by simpa using hx
      exact ⟨Eqv.new m, Nat.zero_le _⟩⟩
end Go.Proofs.Ytoeaaomgilgncaa
