/-
  IntakeScript: the desk, whole, in memory.
-/
import Derived.Test.YtoeaaomgilgncaaDesk4
namespace Go.Proofs.Ytoeaaomgilgncaa
open Go.RowKit Go.Mem Go.Intake
set_option linter.unusedVariables false

/-- An intake of the program, and the document's beside it. -/
structure PR where
  p : Nat
  s : St
  q : Nat
  r : RS
def PR.va (x : PR) : Value := .pointer (some ⟨x.p, 0, none⟩)
def PR.vb (x : PR) : Value := .pointer (some ⟨x.q, 0, none⟩)
def aIp (x : PR) : Ast := aI x.p x.s
def aRp (x : PR) : Ast := aR x.q x.r
structure DA where
  Aa : Option Addr
  Ab : Option Addr
  Ao : Option Addr
  Aw : Option Addr
  Al : Option Addr
  ca : Nat
  cb : Nat
  no : Nat
  co : Nat
  cw : Nat
  nl : Nat
  cl : Nat
  oo : List OB
  ow : List OB
  fo : List OB
  fw : List OB
  lent : List UInt8
def deskB (d : Nat) (a : DA) (n : Nat) : List Ast :=
  bookL d (.slice a.Aa n a.ca) (.slice a.Ab n a.cb) (.slice a.Al a.nl a.cl) a.oo.length a.Ao a.no a.co a.Aw a.no a.cw ((a.oo ++ a.fo).map OB.val) ((a.ow ++ a.fw).map OB.val) (a.oo ++ a.ow)
/-- What stands behind the book. -/
def deskR (a : DA) (n : Nat) (va vb : List Value) : List Ast := [aOwn 38 1 a.Aa n a.ca va, aOwn 40 1 a.Ab n a.cb vb, aB a.Al a.nl a.cl a.lent]
def deskL (d : Nat) (a : DA) (L : List PR) : List Ast :=
  deskB d a L.length ++ (a.fo.map aO ++ (a.fw.map aO ++ (deskR a L.length (L.map PR.va) (L.map PR.vb) ++ (L.map aIp ++ (L.map aRp ++ [])))))
structure DeskOk (a : DA) (L : List PR) (T K : Nat) : Prop where
  e1 : a.oo.map OB.bytes = a.ow.map OB.bytes
  e2 : a.fo.map OB.bytes = a.fw.map OB.bytes
  fb : ∀ o ∈ a.fo, o.bytes.length ≤ T
  cnt : a.no + a.fo.length ≤ 2 * K
  eqv : ∀ x ∈ L, Eqv x.s x.r ∧ x.s.held.length ≤ T
def Desk (w0 w : World) (d : Nat) (L : List PR) (T K : Nat) : Prop := ∃ a, DeskOk a L T K ∧ Holds w0 w (deskL d a L)
/-- The same, where its two rows lie. -/
def DeskA (w0 w : World) (d : Nat) (L : List PR) (T K : Nat) (Aa : Option Addr) (ca : Nat) (Ab : Option Addr) (cb : Nat) : Prop := ∃ a : DA, (a.Aa = Aa ∧ a.ca = ca ∧ a.Ab = Ab ∧ a.cb = cb) ∧ DeskOk a L T K ∧ Holds w0 w (deskL d a L)
theorem DeskA.desk {w0 w : World} {d : Nat} {L : List PR} {T K : Nat} {Aa Ab : Option Addr} {ca cb : Nat} (h : DeskA w0 w d L T K Aa ca Ab cb) : Desk w0 w d L T K := by
  obtain ⟨a, _, h1, h2⟩ := h
  exact ⟨a, h1, h2⟩
theorem Desk.rows {w0 w : World} {d : Nat} {L : List PR} {T K : Nat} (h : Desk w0 w d L T K) : ∃ Aa ca Ab cb, DeskA w0 w d L T K Aa ca Ab cb := by
  obtain ⟨a, h1, h2⟩ := h
  exact ⟨_, _, _, _, a, ⟨rfl, rfl, rfl, rfl⟩, h1, h2⟩

section
variable {w0 w : World} {d : Nat} {a : DA} {L : List PR}
/-- The block first. -/
theorem desk_blk (h : Holds w0 w (deskL d a L)) : ∃ R, Holds w0 w (aBlk d (deskCells (.slice a.Aa L.length a.ca) (.slice a.Ab L.length a.cb) a.Ao a.no a.co a.Aw a.no a.cw a.oo.length (.slice a.Al a.nl a.cl)) 32 :: R) := ⟨_, h⟩
theorem desk_cells (h : Holds w0 w (deskL d a L)) : w.cell? ⟨d, 0, none⟩ = some (.slice a.Aa L.length a.ca) ∧ w.cell? ⟨d, 1, none⟩ = some (.slice a.Ab L.length a.cb) ∧ w.cell? ⟨d, 5, none⟩ = some (.slice a.Al a.nl a.cl) := by
  obtain ⟨R, h⟩ := desk_blk h
  have hb := h.blk.1
  have c0 := hb.cell 0
  have c1 := hb.cell 1
  have c5 := hb.cell 5
  simp only [deskCells, List.getElem?_cons_zero, List.getElem?_cons_succ] at c0 c1 c5
  exact ⟨c0, c1, c5⟩
theorem desk_frozen (h : Holds w0 w (deskL d a L)) (o : Nat) (ho : o < 6 := by decide) : w.frozen? ⟨d, o, none⟩ = false := by
  obtain ⟨R, h⟩ := desk_blk h
  exact h.blk.1.frozen o (by simpa [deskCells] using ho)
/-- A list's part, to the front. -/
theorem Holds.part {w0 w : World} {l m r : List Ast} (h : Holds w0 w (l ++ (m ++ r))) : Holds w0 w (m ++ (l ++ r)) := h.perm (by
  rw [← List.append_assoc, ← List.append_assoc]
  exact List.Perm.append_right _ List.perm_append_comm)
theorem desk_tail (h : Holds w0 w (deskL d a L)) : Holds w0 w (deskR a L.length (L.map PR.va) (L.map PR.vb) ++ (L.map aIp ++ (L.map aRp ++ []))) := Holds.drop (Holds.drop (Holds.drop h))
theorem desk_rowA (h : Holds w0 w (deskL d a L)) : Own w 38 1 a.Aa L.length a.ca (L.map PR.va) := (show Holds w0 w (aOwn 38 1 a.Aa L.length a.ca (L.map PR.va) :: _) from desk_tail h).own.1
theorem desk_rowB (h : Holds w0 w (deskL d a L)) : Own w 40 1 a.Ab L.length a.cb (L.map PR.vb) := (Holds.swap (show Holds w0 w (aOwn 38 1 a.Aa L.length a.ca (L.map PR.va) :: aOwn 40 1 a.Ab L.length a.cb (L.map PR.vb) :: _) from desk_tail h)).own.1
theorem desk_lent (h : Holds w0 w (deskL d a L)) : OwnB w 5 a.Al a.nl a.cl a.lent := (Holds.get3 (show Holds w0 w (aOwn 38 1 a.Aa L.length a.ca (L.map PR.va) :: aOwn 40 1 a.Ab L.length a.cb (L.map PR.vb) :: aB a.Al a.nl a.cl a.lent :: _) from desk_tail h)).own.1
/-- The cell of an intake in its row. -/
theorem desk_at (h : Holds w0 w (deskL d a L)) (k : Nat) (hk : k < L.length) :
    (∃ g off, a.Aa = some ⟨g, off, none⟩ ∧ w.cell? ⟨g, off + k, none⟩ = some (.pointer (some ⟨L[k].p, 0, none⟩)) ∧ w.frozen? ⟨g, off + k, none⟩ = false) ∧
    (∃ g off, a.Ab = some ⟨g, off, none⟩ ∧ w.cell? ⟨g, off + k, none⟩ = some (.pointer (some ⟨L[k].q, 0, none⟩)) ∧ w.frozen? ⟨g, off + k, none⟩ = false) := by
  have hA := desk_rowA h
  have hB := desk_rowB h
  obtain ⟨g, off, e⟩ := hA.some_of (by simp; omega)
  obtain ⟨g', off', e'⟩ := hB.some_of (by simp; omega)
  refine ⟨⟨g, off, e, ?_⟩, ⟨g', off', e', ?_⟩⟩
  · rw [e] at hA
    have := hA.cell k (by simpa using hk)
    simp only [List.getElem_map] at this
    exact ⟨this, hA.frozen k (by simpa using hk)⟩
  · rw [e'] at hB
    have := hB.cell k (by simpa using hk)
    simp only [List.getElem_map] at this
    exact ⟨this, hB.frozen k (by simpa using hk)⟩
theorem map_set_same {α β : Type} (f : α → β) (l : List α) (k : Nat) (x : α) (hk : k < l.length) (hx : f x = f l[k]) : (l.set k x).map f = l.map f := by
  rw [List.map_set, hx, ← List.map_set, List.set_getElem_self]
/-- One of the pairs, to the front, and back. -/
theorem desk_zoom {R0 : List Ast} (h : Holds w0 w (R0 ++ deskL d a L)) (k : Nat) (hk : k < L.length) :
    ∃ R', Holds w0 w (aI L[k].p L[k].s :: aR L[k].q L[k].r :: R') ∧ ∀ (N : List Ast) (w' : World) (s' : St) (r' : RS), Holds w0 w' (N ++ (aI L[k].p s' :: aR L[k].q r' :: R')) → Holds w0 w' (N ++ (R0 ++ deskL d a (L.set k ⟨L[k].p, s', L[k].q, r'⟩))) := by
  obtain ⟨P0, hP⟩ : ∃ P0, P0 = R0 ++ (deskB d a L.length ++ (a.fo.map aO ++ (a.fw.map aO ++ deskR a L.length (L.map PR.va) (L.map PR.vb)))) := ⟨_, rfl⟩
  have h1 : Holds w0 w (P0 ++ (L.map aIp ++ (L.map aRp ++ []))) := by
    have := h
    unfold deskL at this
    rw [hP]
    simpa only [List.append_assoc] using this
  obtain ⟨R', h2, h3⟩ := Holds.zoom2 h1 k hk hk
  refine ⟨P0 ++ R', ?_, fun N w' s' r' h' => ?_⟩
  · exact h2.perm (by
      refine List.Perm.trans List.perm_middle ?_
      exact List.Perm.cons _ List.perm_middle)
  · have h4 := h3 (w' := w') (x := ⟨L[k].p, s', L[k].q, r'⟩) (y := ⟨L[k].p, s', L[k].q, r'⟩) (l0' := N ++ P0) (h'.perm (by
      rw [List.append_assoc]
      refine List.Perm.append_left _ ?_
      refine List.Perm.symm ?_
      refine List.Perm.trans List.perm_middle ?_
      exact List.Perm.cons _ List.perm_middle))
    unfold deskL
    rw [List.length_set, map_set_same PR.va L k ⟨L[k].p, s', L[k].q, r'⟩ hk rfl, map_set_same PR.vb L k ⟨L[k].p, s', L[k].q, r'⟩ hk rfl]
    rw [hP] at h4
    simpa only [List.append_assoc] using h4
end
end Go.Proofs.Ytoeaaomgilgncaa
